/- The walk of VerifyMany. -/
import Derived.Test.YthfgagljplabpaaDoorVerifyDepths
namespace Go.Proofs.YthfgagljplabpaaDoor
open Go.RowKit Go.Sort
set_option linter.unusedVariables false

def fnC (lv : Value) (f : VF) : List Value := [.string f.name, .int .i64 f.params, .int .i64 f.vars, .int .i64 f.arrays, lv]
def fnR (lv : Value) (l : List VF) : List Value := l.flatMap (fnC lv)
theorem fnR_append (lv : Value) (l r : List VF) : fnR lv (l ++ r) = fnR lv l ++ fnR lv r := by simp [fnR]
theorem fnR_at (lv : Value) (l : List VF) (i j : Nat) (hi : i < l.length) (hj : j < 5) : (fnR lv l)[i * 5 + j]? = (fnC lv (l.getD i default))[j]? := by
  induction l generalizing i with
  | nil => simp at hi
  | cons x l ih =>
    have e : fnR lv (x :: l) = fnC lv x ++ fnR lv l := by simp [fnR]
    rw [e]
    cases i with
    | zero => rw [List.getElem?_append_left (by show _ < 5; omega)]; simp
    | succ i =>
      rw [List.getElem?_append_right (by show 5 ≤ _; omega)]
      have : (i + 1) * 5 + j - (fnC lv x).length = i * 5 + j := by show (i + 1) * 5 + j - 5 = _; omega
      rw [this, ih i (by simpa using hi)]; simp
theorem own_vsl {w : World} {base : Nat} {e : TypeId} {v lv : Value} {l : List VF} (hl : ∀ f ∈ l, ISl w lv f.l) (h : w.ownsRow base e 5 v l.length (fnR lv l)) : VSl w v l := by
  have h' := h
  obtain ⟨hle, ⟨rfl, h0⟩ | ⟨g, cap, cur, rfl, _, hg, hn, hm, hc, ht⟩⟩ := h
  · obtain rfl : l = [] := List.eq_nil_of_length_eq_zero (by omega)
    exact VSl.nil w
  · refine VSl.mk (some ⟨g, 0, none⟩) g 0 cap l (fun _ => lv) (fun _ => rfl) (by omega) hm (fun i hi => ?_) (fun i hi => ?_)
    · have c := fun j hj => own_cell h' j hj
      simp only [Nat.zero_add]
      exact ⟨(c (i * 5) (by omega)).trans (fnR_at lv l i 0 hi (by omega)), (c (i * 5 + 1) (by omega)).trans (fnR_at lv l i 1 hi (by omega)), (c (i * 5 + 2) (by omega)).trans (fnR_at lv l i 2 hi (by omega)), (c (i * 5 + 3) (by omega)).trans (fnR_at lv l i 3 hi (by omega)), (c (i * 5 + 4) (by omega)).trans (fnR_at lv l i 4 hi (by omega))⟩
    · refine hl _ ?_
      rw [List.getD_eq_getElem?_getD, List.getElem?_eq_getElem hi]; exact List.getElem_mem _
theorem infoFn : (Tryd.prog.info? 27).map (fun i => (i.zero, i.size, i.bytes)) = some (some (.agg #[.string ⟨#[]⟩, .int .i64 0, .int .i64 0, .int .i64 0, .slice none 0 0]), 5, 64) := by kernel_rfl
theorem own_ne_box {w : World} {base : Nat} {e t : TypeId} {size n : Nat} {v : Value} {xs : List Value} (h : w.ownsRow base e size v n xs) {B : Nat} {cs : Array Value} {z : Nat × Nat} (hb : w.heap[B]? = some (.cells cs t z)) (hte : t ≠ e) : some B ≠ v.ownBlock := by
  obtain ⟨_, ⟨rfl, _⟩ | ⟨g, cap, cur, rfl, _, hg, _⟩⟩ := h
  · simp [Value.ownBlock]
  · simp only [Value.ownBlock]
    intro e'
    cases e'
    rw [hb] at hg
    injection hg with hg
    injection hg with _ h2 _
    exact hte h2
theorem heap_set {W : World} {B : Nat} {cs : Array Value} {t : TypeId} (h : W.heap[B]? = some (.cells cs t (0, 0))) (j : Nat) (v : Value) : (W.setCell ⟨B, j, none⟩ v).heap[B]? = some (.cells (cs.setIfInBounds j v) t (0, 0)) := by
  obtain ⟨hlt, hk⟩ := Array.getElem?_eq_some_iff.1 h
  show (W.heap.modify B _)[B]? = _
  rw [Array.getElem?_eq_getElem (by rw [Array.size_modify]; exact hlt), Array.getElem_modify_self, hk]
  rfl
theorem free_of_heap {W : World} {B : Nat} {cs : Array Value} {t : TypeId} (h : W.heap[B]? = some (.cells cs t (0, 0))) (j : Nat) : W.frozen? ⟨B, j, none⟩ = false := by simp [World.frozen?, h]
theorem grown_set (W : World) (b j : Nat) (v : Value) : W.grownBy (W.setCell ⟨b, j, none⟩ v) (some b) :=
  ⟨rfl, rfl, rfl, (KeepsWalks.setCell W _ v).size, fun k _ hk => Below.heap_setCell _ _ _ k (fun e => hk (by rw [e]))⟩
theorem own_of_grown {W W' : World} {row : Option Nat} {B : Nat} {o : Obj} (h : W.heap[B]? = some o) (hg : W.grownBy W' row) (hne : some B ≠ row) : W'.heap[B]? = some o := (hg.block B (Array.getElem?_eq_some_iff.1 h).1 hne).trans h
theorem fn_new (w : World) (lv : Value) (l : List VF) (t : TypeId) : ∀ j u, (fnR lv l)[j]? = some u → (w.alloc (.cells (fnR lv l).toArray t)).cell? ((⟨w.heap.size, 0, none⟩ : Addr).add j) = some u := by
  intro j u h
  rw [addr_add, Nat.zero_add, cell_of_heap (heap_alloc_new w _)]
  simpa using h
theorem fn_one {lv : Value} (hlv : lv.oneCell' = true) (l : List VF) : ∀ u ∈ fnR lv l, u.oneCell' = true := by
  intro u hu
  obtain ⟨i, _, hi⟩ := List.mem_flatMap.1 hu
  simp only [fnC, List.mem_cons, List.not_mem_nil, or_false] at hi
  rcases hi with rfl | rfl | rfl | rfl | rfl <;> first | rfl | exact hlv

theorem below_of_alloc' {w w' : World} {o : Obj} (hb : Below (w.heap.size + 1) (w.alloc o) w') : Below w.heap.size w w' := ((Below.refl _ _).alloc (Nat.le_refl _) _).trans (hb.mono (by simp))
/-- Which of the tests is the first that fails. -/
theorem may_cases (p v a : Int) :
    (decide (0 ≤ p) = false ∧ headV (oneF p v a) = false) ∨ (0 ≤ p ∧ decide (p ≤ 8) = false ∧ headV (oneF p v a) = false) ∨ (0 ≤ p ∧ p ≤ 8 ∧ decide (p ≤ v) = false ∧ headV (oneF p v a) = false) ∨
    (0 ≤ p ∧ p ≤ 8 ∧ p ≤ v ∧ decide (v ≤ 64) = false ∧ headV (oneF p v a) = false) ∨ (0 ≤ p ∧ p ≤ 8 ∧ p ≤ v ∧ v ≤ 64 ∧ decide (0 ≤ a) = false ∧ headV (oneF p v a) = false) ∨
    (0 ≤ p ∧ p ≤ 8 ∧ p ≤ v ∧ v ≤ 64 ∧ 0 ≤ a ∧ decide (a ≤ 64) = false ∧ headV (oneF p v a) = false) ∨ (0 ≤ p ∧ p ≤ 8 ∧ p ≤ v ∧ v ≤ 64 ∧ 0 ≤ a ∧ a ≤ 64 ∧ headV (oneF p v a) = true) := by
  have e : headV (oneF p v a) = decide (0 ≤ p ∧ p ≤ 8 ∧ p ≤ v ∧ 0 ≤ v ∧ v ≤ 64 ∧ 0 ≤ a ∧ a ≤ 64) := by
    unfold headV inB oneF
    rw [Bool.eq_iff_iff]
    simp
    omega
  rw [e]
  by_cases h1 : 0 ≤ p
  rotate_left
  · exact .inl ⟨decide_eq_false h1, decide_eq_false (by omega)⟩
  by_cases h2 : p ≤ 8
  rotate_left
  · exact .inr (.inl ⟨h1, decide_eq_false h2, decide_eq_false (by omega)⟩)
  by_cases h3 : p ≤ v
  rotate_left
  · exact .inr (.inr (.inl ⟨h1, h2, decide_eq_false h3, decide_eq_false (by omega)⟩))
  by_cases h4 : v ≤ 64
  rotate_left
  · exact .inr (.inr (.inr (.inl ⟨h1, h2, h3, decide_eq_false h4, decide_eq_false (by omega)⟩)))
  by_cases h5 : 0 ≤ a
  rotate_left
  · exact .inr (.inr (.inr (.inr (.inl ⟨h1, h2, h3, h4, decide_eq_false h5, decide_eq_false (by omega)⟩))))
  by_cases h6 : a ≤ 64
  rotate_left
  · exact .inr (.inr (.inr (.inr (.inr (.inl ⟨h1, h2, h3, h4, h5, decide_eq_false h6, decide_eq_false (by omega)⟩)))))
  exact .inr (.inr (.inr (.inr (.inr (.inr (⟨h1, h2, h3, h4, h5, h6, decide_eq_true (by omega)⟩))))))

set_option maxHeartbeats 8000000 in
set_option maxRecDepth 1000000 in
theorem many_core (ns ps vs rs : Int) (x : Int) (hx : Go.bits .and .i64 ns 65535 = x) (x0 : 0 ≤ x) (m : Nat) (hm : x % 41 = (m : Int)) (hm40 : m ≤ 40) (w : World) (ht : Tab w) :
    Calls Tryd.prog 5 #[.int .i64 ns, .int .i64 ps, .int .i64 vs, .int .i64 rs] w fun e w' => e = .returned (.bool true) ∧ Below w.heap.size w w' := by
  obtain ⟨i0, hi, hz0, hz1, hz2⟩ := info_parts infoFn
  have HT := Lib.hid ht
  have hmod : Int.tmod x 41 = x % 41 := Int.tmod_eq_emod_of_nonneg x0
  rw [hm] at hmod
  clear ht hm
  go_enter Tryd.func5, Tryd.ntmps5
  go_wp2_with (go_at_call 7; refine (shown_r _ HT.out).mono ?_; rintro e w1 ⟨rfl, hb⟩; have HW1 : Hid (Below w.heap.size w w1) := hb; have HT1 : Hid (Tab w1) := HT.out.below hb; clear hb)
  generalize wrap64 (Int.tmod ps 101 - 1) = p
  generalize wrap64 (Int.tmod vs 101 - 1) = v
  generalize wrap64 (Int.tmod rs 101 - 1) = a
  clear hx
  have HO0 : Hid (∀ W : World, W = ((w1.alloc (.cells (insR [pushI, retI]).toArray 25)).alloc (.cells #[.string ⟨#[]⟩, .int .i64 0, .int .i64 0, .int .i64 0, .slice (some ⟨w1.heap.size, 0, none⟩) 2 2] 27)).alloc (.cells #[.slice (some ⟨w1.heap.size + 1, 0, none⟩) 1 1] 30) →
      W.heap[w1.heap.size + 1 + 1]? = some (.cells #[.slice (some ⟨w1.heap.size + 1, 0, none⟩) 1 1] 30 (0, 0)) ∧ W.ownsRow (w1.heap.size + 1) 27 5 (.slice (some ⟨w1.heap.size + 1, 0, none⟩) 1 1) 1 (fnR (.slice (some ⟨w1.heap.size, 0, none⟩) 2 2) (manyF 0 p v a)) ∧ Below (w1.heap.size + 1) (w1.alloc (.cells (insR [pushI, retI]).toArray 25)) W) := by
    rintro W rfl
    refine ⟨?_, ?_, ?_⟩
    · have := heap_alloc_new ((w1.alloc (.cells (insR [pushI, retI]).toArray 25)).alloc (.cells #[.string ⟨#[]⟩, .int .i64 0, .int .i64 0, .int .i64 0, .slice (some ⟨w1.heap.size, 0, none⟩) 2 2] 27)) (.cells #[.slice (some ⟨w1.heap.size + 1, 0, none⟩) 1 1] 30)
      rwa [World.size_alloc, World.size_alloc] at this
    · have := own_new (w1.alloc (.cells (insR [pushI, retI]).toArray 25)) (w1.heap.size + 1) 27 5 1 (fnR (.slice (some ⟨w1.heap.size, 0, none⟩) 2 2) (manyF 0 p v a)) (by simp) rfl (by decide)
      rw [World.size_alloc] at this
      exact this.alloc _
    · exact ((Below.refl _ _).alloc (by simp) _).alloc (by simp) _
  go_loopw [12] (fun i wr => ∃ (k : Nat) (u : Value), i = .int .i64 k ∧ k ≤ m ∧ Hid (wr.heap[w1.heap.size + 1 + 1]? = some (.cells #[u] 30 (0, 0))) ∧ Hid (wr.ownsRow (w1.heap.size + 1) 27 5 u (k + 1) (fnR (.slice (some ⟨w1.heap.size, 0, none⟩) 2 2) (manyF k p v a))) ∧ Hid (Below (w1.heap.size + 1) (w1.alloc (.cells (insR [pushI, retI]).toArray 25)) wr)) (fun i _ => m - (intOf i).toNat)
  case atStart => obtain ⟨z1, z2, z3⟩ := HO0.out _ rfl; exact ⟨0, _, rfl, Nat.zero_le _, z1, z2, z3⟩
  case round =>
    clear HO0
    obtain ⟨k, u, rfl, hk, HX, HO, HB⟩ := hrel
    have HBk : Hid (k ≤ 40) := by show k ≤ 40; omega
    have c0 : wr.cell? ⟨w1.heap.size + 1 + 1, 0, none⟩ = some u := cell_of_heap HX.out 0
    have hlw : w1.heap.size + 1 + 1 < wr.heap.size := (Array.getElem?_eq_some_iff.1 HX.out).1
    by_cases hlt : k < m
    · have HC1 := Lib.hid (fn_new wr (.slice (some ⟨w1.heap.size, 0, none⟩) 2 2) [oneF p v a] 27)
      have HX1 := Lib.hid (own_of_grown HX.out (World.grownBy_alloc wr (.cells (fnR (.slice (some ⟨w1.heap.size, 0, none⟩) 2 2) [oneF p v a]).toArray 27) none) (by simp))
      go_wp2_with (at_builtin; refine wpList_append_own _ rfl _ _ 28 rfl (w1.heap.size + 1) 27 i0 (.agg #[.string ⟨#[]⟩, .int .i64 0, .int .i64 0, .int .i64 0, .slice none 0 0]) 5 64 Tryd.underlying28 hi hz0 hz1 hz2 rfl (by decide) _ _ _ rfl (HO.out.alloc _) ⟨wr.heap.size, 0, none⟩ 1 1 (fnR (.slice (some ⟨w1.heap.size, 0, none⟩) 2 2) [oneF p v a]) rfl rfl HC1.out (fn_one rfl _) (by have := HBk.out; unfold maxLen; omega) (by have := HBk.out; omega) (by rw [World.size_alloc]; omega) ?_; intro v' w2 hown' hgrow _; obtain ⟨g', cap', rfl⟩ := ownsRow_succ hown'; have HO2 := Lib.hid hown'; have HX2 := Lib.hid (own_of_grown HX1.out hgrow (own_ne_box HO.out HX.out (by decide))); have HB2 : Hid (Below (w1.heap.size + 1) (w1.alloc (.cells (insR [pushI, retI]).toArray 25)) w2) := (HB.out.alloc (by omega) _).grown hgrow (by rw [World.size_alloc]; omega) (fun r e => own_ge HO.out e.symm); have d0 : w2.cell? ⟨w1.heap.size + 1 + 1, 0, none⟩ = some u := cell_of_heap HX2.out 0; have f0 : w2.frozen? ⟨w1.heap.size + 1 + 1, 0, none⟩ = false := free_of_heap HX2.out 0; clear hown' hgrow)
      go_roundw
      case rel => exact ⟨k + 1, _, by go_num, by omega, heap_set HX2.out 0 _, by show World.ownsRow _ _ _ _ _ _ _; rw [← manyF_next, fnR_append]; exact HO2.out.kept (grown_set w2 _ 0 _) (.inr (fun e => own_ne_box HO2.out HX2.out (by decide) e.symm)), HB2.out.setCell (p := ⟨w1.heap.size + 1 + 1, 0, none⟩) (by simp) _⟩
      case measure => simp [intOf]; omega
    · obtain rfl : k = m := by omega
      obtain ⟨g, cap, rfl⟩ := ownsRow_succ HO.out
      have HBW : Hid (Below w1.heap.size w1 wr) := below_of_alloc' HB.out
      have hli : ISl wr (.slice (some ⟨w1.heap.size, 0, none⟩) 2 2) [pushI, retI] := by
        have h0 := isl_new w1 [pushI, retI] 25 (by decide)
        refine h0.stay ?_
        have := HB.out
        rwa [World.size_alloc]
      have HV : Hid (VSl wr (.slice (some ⟨g, 0, none⟩) (k + 1) cap) (manyF k p v a)) := by
        refine own_vsl (base := w1.heap.size + 1) (e := 27) (lv := .slice (some ⟨w1.heap.size, 0, none⟩) 2 2) (fun f hf => ?_) ?_
        · have : f.l = [pushI, retI] := by
            unfold manyF at hf
            rcases List.mem_cons.1 hf with rfl | hf
            · rfl
            · rw [(List.mem_replicate.1 hf).2]; rfl
          rw [this]; exact hli
        · rw [manyF_length]; exact HO.out
      have hl := many_law k p v a
      have hm := may_cases p v a
      clear hli hlt hk
      have hk3 : (k = 0) ∨ (1 ≤ k ∧ k ≤ 32) ∨ (32 < k) := by omega
      rcases hk3 with rfl | ⟨hk1, hk2⟩ | hk2
      · rcases hm with ⟨h1, hb⟩ | ⟨h1, h2, hb⟩ | ⟨h1, h2, h3, hb⟩ | ⟨h1, h2, h3, h4, hb⟩ | ⟨h1, h2, h3, h4, h5, hb⟩ | ⟨h1, h2, h3, h4, h5, h6, hb⟩ | ⟨h1, h2, h3, h4, h5, h6, hb⟩
        · have HC : Hid ((if codeV (manyF 0 p v a) then (0 : Int) else 6) = 0) := by show _ = _; rw [hl, hb]; rfl
          clear hl hb
          go_wp2_with (go_at_call 8; refine (code_v (manyF 0 p v a) _ _ _ _ (HT1.out.below HBW.out) HV.out _ HC.out).mono ?_; rintro e w4 ⟨rfl, hb⟩; have HB4 := hb_step HBW hb; clear hb)
          go_ret
          exact ⟨rfl, HW1.out.trans (HB4.out.mono HW1.out.size)⟩
        · have HC : Hid ((if codeV (manyF 0 p v a) then (0 : Int) else 6) = 0) := by show _ = _; rw [hl, hb]; rfl
          clear hl hb
          go_wp2_with (go_at_call 8; refine (code_v (manyF 0 p v a) _ _ _ _ (HT1.out.below HBW.out) HV.out _ HC.out).mono ?_; rintro e w4 ⟨rfl, hb⟩; have HB4 := hb_step HBW hb; clear hb)
          go_ret
          exact ⟨rfl, HW1.out.trans (HB4.out.mono HW1.out.size)⟩
        · have HC : Hid ((if codeV (manyF 0 p v a) then (0 : Int) else 6) = 0) := by show _ = _; rw [hl, hb]; rfl
          clear hl hb
          go_wp2_with (go_at_call 8; refine (code_v (manyF 0 p v a) _ _ _ _ (HT1.out.below HBW.out) HV.out _ HC.out).mono ?_; rintro e w4 ⟨rfl, hb⟩; have HB4 := hb_step HBW hb; clear hb)
          go_ret
          exact ⟨rfl, HW1.out.trans (HB4.out.mono HW1.out.size)⟩
        · have HC : Hid ((if codeV (manyF 0 p v a) then (0 : Int) else 6) = 0) := by show _ = _; rw [hl, hb]; rfl
          clear hl hb
          go_wp2_with (go_at_call 8; refine (code_v (manyF 0 p v a) _ _ _ _ (HT1.out.below HBW.out) HV.out _ HC.out).mono ?_; rintro e w4 ⟨rfl, hb⟩; have HB4 := hb_step HBW hb; clear hb)
          go_ret
          exact ⟨rfl, HW1.out.trans (HB4.out.mono HW1.out.size)⟩
        · have HC : Hid ((if codeV (manyF 0 p v a) then (0 : Int) else 6) = 0) := by show _ = _; rw [hl, hb]; rfl
          clear hl hb
          go_wp2_with (go_at_call 8; refine (code_v (manyF 0 p v a) _ _ _ _ (HT1.out.below HBW.out) HV.out _ HC.out).mono ?_; rintro e w4 ⟨rfl, hb⟩; have HB4 := hb_step HBW hb; clear hb)
          go_ret
          exact ⟨rfl, HW1.out.trans (HB4.out.mono HW1.out.size)⟩
        · have HC : Hid ((if codeV (manyF 0 p v a) then (0 : Int) else 6) = 0) := by show _ = _; rw [hl, hb]; rfl
          clear hl hb
          go_wp2_with (go_at_call 8; refine (code_v (manyF 0 p v a) _ _ _ _ (HT1.out.below HBW.out) HV.out _ HC.out).mono ?_; rintro e w4 ⟨rfl, hb⟩; have HB4 := hb_step HBW hb; clear hb)
          go_ret
          exact ⟨rfl, HW1.out.trans (HB4.out.mono HW1.out.size)⟩
        · have HC : Hid ((if codeV (manyF 0 p v a) then (0 : Int) else 6) = 0) := by show _ = _; rw [hl, hb]; rfl
          clear hl hb
          go_wp2_with (go_at_call 8; refine (code_v (manyF 0 p v a) _ _ _ _ (HT1.out.below HBW.out) HV.out _ HC.out).mono ?_; rintro e w4 ⟨rfl, hb⟩; have HB4 := hb_step HBW hb; clear hb)
          go_ret
          exact ⟨rfl, HW1.out.trans (HB4.out.mono HW1.out.size)⟩
      · have kI : ((k : Int) == 0) = false := by simp; omega
        have kJ : (k : Int) ≤ 32 := by omega
        rcases hm with ⟨h1, hb⟩ | ⟨h1, h2, hb⟩ | ⟨h1, h2, h3, hb⟩ | ⟨h1, h2, h3, h4, hb⟩ | ⟨h1, h2, h3, h4, h5, hb⟩ | ⟨h1, h2, h3, h4, h5, h6, hb⟩ | ⟨h1, h2, h3, h4, h5, h6, hb⟩
        · have HC : Hid ((if codeV (manyF k p v a) then (0 : Int) else 6) = 6) := by show _ = _; rw [hl, hb]; rw [decide_eq_true hk2, decide_eq_false (show ¬ k = 0 by omega)]; rfl
          clear hl hb
          go_wp2_with (go_at_call 8; refine (code_v (manyF k p v a) _ _ _ _ (HT1.out.below HBW.out) HV.out _ HC.out).mono ?_; rintro e w4 ⟨rfl, hb⟩; have HB4 := hb_step HBW hb; clear hb)
          go_ret
          exact ⟨rfl, HW1.out.trans (HB4.out.mono HW1.out.size)⟩
        · have HC : Hid ((if codeV (manyF k p v a) then (0 : Int) else 6) = 6) := by show _ = _; rw [hl, hb]; rw [decide_eq_true hk2, decide_eq_false (show ¬ k = 0 by omega)]; rfl
          clear hl hb
          go_wp2_with (go_at_call 8; refine (code_v (manyF k p v a) _ _ _ _ (HT1.out.below HBW.out) HV.out _ HC.out).mono ?_; rintro e w4 ⟨rfl, hb⟩; have HB4 := hb_step HBW hb; clear hb)
          go_ret
          exact ⟨rfl, HW1.out.trans (HB4.out.mono HW1.out.size)⟩
        · have HC : Hid ((if codeV (manyF k p v a) then (0 : Int) else 6) = 6) := by show _ = _; rw [hl, hb]; rw [decide_eq_true hk2, decide_eq_false (show ¬ k = 0 by omega)]; rfl
          clear hl hb
          go_wp2_with (go_at_call 8; refine (code_v (manyF k p v a) _ _ _ _ (HT1.out.below HBW.out) HV.out _ HC.out).mono ?_; rintro e w4 ⟨rfl, hb⟩; have HB4 := hb_step HBW hb; clear hb)
          go_ret
          exact ⟨rfl, HW1.out.trans (HB4.out.mono HW1.out.size)⟩
        · have HC : Hid ((if codeV (manyF k p v a) then (0 : Int) else 6) = 6) := by show _ = _; rw [hl, hb]; rw [decide_eq_true hk2, decide_eq_false (show ¬ k = 0 by omega)]; rfl
          clear hl hb
          go_wp2_with (go_at_call 8; refine (code_v (manyF k p v a) _ _ _ _ (HT1.out.below HBW.out) HV.out _ HC.out).mono ?_; rintro e w4 ⟨rfl, hb⟩; have HB4 := hb_step HBW hb; clear hb)
          go_ret
          exact ⟨rfl, HW1.out.trans (HB4.out.mono HW1.out.size)⟩
        · have HC : Hid ((if codeV (manyF k p v a) then (0 : Int) else 6) = 6) := by show _ = _; rw [hl, hb]; rw [decide_eq_true hk2, decide_eq_false (show ¬ k = 0 by omega)]; rfl
          clear hl hb
          go_wp2_with (go_at_call 8; refine (code_v (manyF k p v a) _ _ _ _ (HT1.out.below HBW.out) HV.out _ HC.out).mono ?_; rintro e w4 ⟨rfl, hb⟩; have HB4 := hb_step HBW hb; clear hb)
          go_ret
          exact ⟨rfl, HW1.out.trans (HB4.out.mono HW1.out.size)⟩
        · have HC : Hid ((if codeV (manyF k p v a) then (0 : Int) else 6) = 6) := by show _ = _; rw [hl, hb]; rw [decide_eq_true hk2, decide_eq_false (show ¬ k = 0 by omega)]; rfl
          clear hl hb
          go_wp2_with (go_at_call 8; refine (code_v (manyF k p v a) _ _ _ _ (HT1.out.below HBW.out) HV.out _ HC.out).mono ?_; rintro e w4 ⟨rfl, hb⟩; have HB4 := hb_step HBW hb; clear hb)
          go_ret
          exact ⟨rfl, HW1.out.trans (HB4.out.mono HW1.out.size)⟩
        · have HC : Hid ((if codeV (manyF k p v a) then (0 : Int) else 6) = 0) := by show _ = _; rw [hl, hb]; rw [decide_eq_true hk2, decide_eq_false (show ¬ k = 0 by omega)]; rfl
          clear hl hb
          go_wp2_with (go_at_call 8; refine (code_v (manyF k p v a) _ _ _ _ (HT1.out.below HBW.out) HV.out _ HC.out).mono ?_; rintro e w4 ⟨rfl, hb⟩; have HB4 := hb_step HBW hb; clear hb)
          go_ret
          exact ⟨rfl, HW1.out.trans (HB4.out.mono HW1.out.size)⟩
      · have kJ : decide ((k : Int) ≤ 32) = false := decide_eq_false (by omega)
        have kI : ((k : Int) == 0) = false := by simp; omega
        rcases hm with ⟨h1, hb⟩ | ⟨h1, h2, hb⟩ | ⟨h1, h2, h3, hb⟩ | ⟨h1, h2, h3, h4, hb⟩ | ⟨h1, h2, h3, h4, h5, hb⟩ | ⟨h1, h2, h3, h4, h5, h6, hb⟩ | ⟨h1, h2, h3, h4, h5, h6, hb⟩
        · have HC : Hid ((if codeV (manyF k p v a) then (0 : Int) else 6) = 6) := by show _ = _; rw [hl, hb]; rw [decide_eq_false (show ¬ k ≤ 32 by omega)]; rfl
          clear hl hb
          go_wp2_with (go_at_call 8; refine (code_v (manyF k p v a) _ _ _ _ (HT1.out.below HBW.out) HV.out _ HC.out).mono ?_; rintro e w4 ⟨rfl, hb⟩; have HB4 := hb_step HBW hb; clear hb)
          go_ret
          exact ⟨rfl, HW1.out.trans (HB4.out.mono HW1.out.size)⟩
        · have HC : Hid ((if codeV (manyF k p v a) then (0 : Int) else 6) = 6) := by show _ = _; rw [hl, hb]; rw [decide_eq_false (show ¬ k ≤ 32 by omega)]; rfl
          clear hl hb
          go_wp2_with (go_at_call 8; refine (code_v (manyF k p v a) _ _ _ _ (HT1.out.below HBW.out) HV.out _ HC.out).mono ?_; rintro e w4 ⟨rfl, hb⟩; have HB4 := hb_step HBW hb; clear hb)
          go_ret
          exact ⟨rfl, HW1.out.trans (HB4.out.mono HW1.out.size)⟩
        · have HC : Hid ((if codeV (manyF k p v a) then (0 : Int) else 6) = 6) := by show _ = _; rw [hl, hb]; rw [decide_eq_false (show ¬ k ≤ 32 by omega)]; rfl
          clear hl hb
          go_wp2_with (go_at_call 8; refine (code_v (manyF k p v a) _ _ _ _ (HT1.out.below HBW.out) HV.out _ HC.out).mono ?_; rintro e w4 ⟨rfl, hb⟩; have HB4 := hb_step HBW hb; clear hb)
          go_ret
          exact ⟨rfl, HW1.out.trans (HB4.out.mono HW1.out.size)⟩
        · have HC : Hid ((if codeV (manyF k p v a) then (0 : Int) else 6) = 6) := by show _ = _; rw [hl, hb]; rw [decide_eq_false (show ¬ k ≤ 32 by omega)]; rfl
          clear hl hb
          go_wp2_with (go_at_call 8; refine (code_v (manyF k p v a) _ _ _ _ (HT1.out.below HBW.out) HV.out _ HC.out).mono ?_; rintro e w4 ⟨rfl, hb⟩; have HB4 := hb_step HBW hb; clear hb)
          go_ret
          exact ⟨rfl, HW1.out.trans (HB4.out.mono HW1.out.size)⟩
        · have HC : Hid ((if codeV (manyF k p v a) then (0 : Int) else 6) = 6) := by show _ = _; rw [hl, hb]; rw [decide_eq_false (show ¬ k ≤ 32 by omega)]; rfl
          clear hl hb
          go_wp2_with (go_at_call 8; refine (code_v (manyF k p v a) _ _ _ _ (HT1.out.below HBW.out) HV.out _ HC.out).mono ?_; rintro e w4 ⟨rfl, hb⟩; have HB4 := hb_step HBW hb; clear hb)
          go_ret
          exact ⟨rfl, HW1.out.trans (HB4.out.mono HW1.out.size)⟩
        · have HC : Hid ((if codeV (manyF k p v a) then (0 : Int) else 6) = 6) := by show _ = _; rw [hl, hb]; rw [decide_eq_false (show ¬ k ≤ 32 by omega)]; rfl
          clear hl hb
          go_wp2_with (go_at_call 8; refine (code_v (manyF k p v a) _ _ _ _ (HT1.out.below HBW.out) HV.out _ HC.out).mono ?_; rintro e w4 ⟨rfl, hb⟩; have HB4 := hb_step HBW hb; clear hb)
          go_ret
          exact ⟨rfl, HW1.out.trans (HB4.out.mono HW1.out.size)⟩
        · have HC : Hid ((if codeV (manyF k p v a) then (0 : Int) else 6) = 6) := by show _ = _; rw [hl, hb]; rw [decide_eq_false (show ¬ k ≤ 32 by omega)]; rfl
          clear hl hb
          go_wp2_with (go_at_call 8; refine (code_v (manyF k p v a) _ _ _ _ (HT1.out.below HBW.out) HV.out _ HC.out).mono ?_; rintro e w4 ⟨rfl, hb⟩; have HB4 := hb_step HBW hb; clear hb)
          go_ret
          exact ⟨rfl, HW1.out.trans (HB4.out.mono HW1.out.size)⟩
theorem many_walk (ns ps vs rs : Int) (w : World) (ht : Tab w) :
    Calls Tryd.prog 5 #[.int .i64 ns, .int .i64 ps, .int .i64 vs, .int .i64 rs] w fun e w' => e = .returned (.bool true) ∧ Below w.heap.size w w' := by
  obtain ⟨x, hx, x0, x1⟩ := bits_16 ns
  obtain ⟨m, hm⟩ : ∃ m : Nat, x % 41 = (m : Int) := ⟨(x % 41).toNat, by omega⟩
  exact many_core ns ps vs rs x hx x0 m hm (by omega) w ht
end Go.Proofs.YthfgagljplabpaaDoor
