/- The walk of VerifyDepths. -/
import Derived.Test.YthfgagljplabpaaDoorVerifyJumps
namespace Go.Proofs.YthfgagljplabpaaDoor
open Go.RowKit Go.Sort
set_option linter.unusedVariables false

theorem dep_isl {w : World} {base : Nat} {v : Value} {op : Int} {k : Nat} (hk : k ≤ 10) (h : w.ownsRow base 25 3 v (k + 3) (insR (pushes k) ++ insR [⟨op, 1, 1⟩, pushI, retI])) : ISl w v (depL op k) := by
  have hl : (depL op k).length = k + 3 := by simp [depL, pushes]
  refine own_isl (base := base) (e := 25) ?_ ?_
  · rw [hl]; omega
  · rw [hl]; unfold depL; rw [insR_append]; exact h
/-- Functions of code written down: two. -/
theorem vsl_two {w : World} {b : Nat} {f g : VF} {fv gv : Value} (hf : ISl w fv f.l) (hg : ISl w gv g.l)
    (h : w.heap[b]? = some (.cells #[.string f.name, .int .i64 f.params, .int .i64 f.vars, .int .i64 f.arrays, fv, .string g.name, .int .i64 g.params, .int .i64 g.vars, .int .i64 g.arrays, gv] 27 (0, 0))) : VSl w (.slice (some ⟨b, 0, none⟩) 2 2) [f, g] := by
  refine VSl.mk (some ⟨b, 0, none⟩) b 0 2 [f, g] (fun i => if i = 0 then fv else gv) (fun _ => rfl) (Nat.le_refl _) (by unfold maxLen; omega) (fun i hi => ?_) (fun i hi => ?_)
  · have hi' : i = 0 ∨ i = 1 := by simp at hi; omega
    rcases hi' with rfl | rfl
    · exact ⟨cell_of_heap h 0, cell_of_heap h 1, cell_of_heap h 2, cell_of_heap h 3, cell_of_heap h 4⟩
    · exact ⟨cell_of_heap h 5, cell_of_heap h 6, cell_of_heap h 7, cell_of_heap h 8, cell_of_heap h 9⟩
  · have hi' : i = 0 ∨ i = 1 := by simp at hi; omega
    rcases hi' with rfl | rfl
    · exact hf
    · exact hg

theorem below3 {w W : World} {o1 o2 o3 : Obj} (h : Below w.heap.size w W) : Below w.heap.size w (((W.alloc o1).alloc o2).alloc o3) :=
  ((h.alloc h.size _).alloc (Nat.le_trans h.size (by simp)) _).alloc (Nat.le_trans h.size (by simp; omega)) _
theorem below3' {w W : World} {o1 o2 o3 : Obj} (h : Hid (Below w.heap.size w W)) : Hid (Below w.heap.size w (((W.alloc o1).alloc o2).alloc o3)) := below3 h.out
theorem dep_vsl {w : World} {base : Nat} {v : Value} {op : Int} {k : Nat} {o : Obj} (hk : k ≤ 10) (h : w.ownsRow base 25 3 v (k + 3) (insR (pushes k) ++ insR [⟨op, 1, 1⟩, pushI, retI])) :
    VSl (((w.alloc (.cells (insR [pushI, retI]).toArray 25)).alloc (.cells #[.string ⟨#[]⟩, .int .i64 0, .int .i64 2, .int .i64 2, v, .string ⟨#[]⟩, .int .i64 3, .int .i64 3, .int .i64 0, .slice (some ⟨w.heap.size, 0, none⟩) 2 2] 27)).alloc o) (.slice (some ⟨w.heap.size + 1, 0, none⟩) 2 2) (depF op k) := by
  have hn := heap_alloc_new (w.alloc (.cells (insR [pushI, retI]).toArray 25)) (.cells #[.string ⟨#[]⟩, .int .i64 0, .int .i64 2, .int .i64 2, v, .string ⟨#[]⟩, .int .i64 3, .int .i64 3, .int .i64 0, .slice (some ⟨w.heap.size, 0, none⟩) 2 2] 27)
  rw [World.size_alloc] at hn
  exact (vsl_two (f := ⟨ByteArray.empty, 0, 2, 2, depL op k⟩) (g := ⟨ByteArray.empty, 3, 3, 0, [pushI, retI]⟩) (((dep_isl hk h).alloc _).alloc _) ((isl_new w [pushI, retI] 25 (by decide)).alloc _) hn).stay ((Below.refl _ _).alloc (Nat.le_refl _) _)

set_option maxHeartbeats 8000000 in
set_option maxRecDepth 1000000 in
theorem depths_core (op ps : Int) (x : Int) (hx : Go.bits .and .i64 ps 65535 = x) (x0 : 0 ≤ x) (m : Nat) (hm : x % 6 = (m : Int)) (hm5 : m ≤ 5)
    (v : Int) (hv : (if codeV (depF op m) then (0 : Int) else 6) = v) (n : Nat) (hix : ix op = n) (w : World) (ht : Tab w) :
    Calls Tryd.prog 3 #[.int .i64 op, .int .i64 ps] w fun e w' => e = .returned (.bool true) ∧ Below w.heap.size w w' := by
  obtain ⟨i0, hi, hz0, hz1, hz2⟩ := info_parts infoI
  have HT := Lib.hid ht
  have HV := Lib.hid hv
  have HIX := Lib.hid hix
  have hmod : Int.tmod x 6 = x % 6 := Int.tmod_eq_emod_of_nonneg x0
  rw [hm] at hmod
  clear ht hv hm hix
  go_enter Tryd.func3, Tryd.ntmps3
  go_wp2_with (go_at_call 7; refine (shown_r _ HT.out).mono ?_; rintro e w1 ⟨rfl, hb⟩; have HW1 : Hid (Below w.heap.size w w1) := hb; have HT1 : Hid (Tab w1) := HT.out.below hb; clear hb)
  go_loopw [6, 7] (fun v6 i wr => ∃ k : Nat, i = .int .i64 k ∧ k ≤ m ∧ Hid (wr.ownsRow w1.heap.size 25 3 v6 k (insR (pushes k))) ∧ Hid (Below w1.heap.size w1 wr)) (fun _ i _ => m - (intOf i).toNat)
  case atStart => exact ⟨0, rfl, Nat.zero_le _, ⟨rfl, .inl ⟨rfl, rfl⟩⟩, Below.refl _ _⟩
  case round =>
    obtain ⟨k, rfl, hk, HO, HB⟩ := hrel
    have HBk : Hid (k ≤ 10) := by show k ≤ 10; omega
    by_cases hlt : k < m
    · have HC1 := Lib.hid (ins_new wr [pushI] 25)
      go_wp2_with (at_builtin; refine wpList_append_own _ rfl _ _ 23 rfl w1.heap.size 25 i0 (.agg #[.int .i64 0, .int .i64 0, .int .i64 0]) 3 24 Tryd.underlying23 hi hz0 hz1 hz2 rfl (by decide) _ _ _ rfl (HO.out.alloc _) ⟨wr.heap.size, 0, none⟩ 1 1 (insR [pushI]) rfl rfl HC1.out (ins_one _) (by have := HBk.out; unfold maxLen; omega) (by have := HBk.out; omega) (by have := HB.out.size; rw [World.size_alloc]; omega) ?_; intro v' w2 hown' hgrow _; obtain ⟨g', cap', rfl⟩ := ownsRow_succ hown'; have HO2 := Lib.hid hown'; have HB2 : Hid (Below w1.heap.size w1 w2) := HB.out.alloc HB.out.size _ |>.grown hgrow (by have := HB.out.size; rw [World.size_alloc]; omega) (fun r e => own_ge HO.out e.symm); clear hown' hgrow)
      go_roundw
      case rel => exact ⟨k + 1, by go_num, by omega, by show World.ownsRow _ _ _ _ _ _ _; rw [← pushes_next, insR_append]; exact HO2.out, HB2⟩
      case measure => simp [intOf]; omega
    · obtain rfl : k = m := by omega
      have HC1 := Lib.hid (ins_new wr [⟨op, 1, 1⟩, pushI, retI] 25)
      by_cases h15 : op = 15
      · subst h15
        go_wp2_with (first
          | (at_builtin; refine wpList_append_own _ rfl _ _ 23 rfl w1.heap.size 25 i0 (.agg #[.int .i64 0, .int .i64 0, .int .i64 0]) 3 24 Tryd.underlying23 hi hz0 hz1 hz2 rfl (by decide) _ _ _ rfl (HO.out.alloc _) ⟨wr.heap.size, 0, none⟩ 3 3 (insR [⟨15, 1, 1⟩, pushI, retI]) rfl rfl HC1.out (ins_one _) (by have := HBk.out; unfold maxLen; omega) (by have := HBk.out; omega) (by have := HB.out.size; rw [World.size_alloc]; omega) ?_; intro v' w2 hown' hgrow _; obtain ⟨g', cap', rfl⟩ := ownsRow_succ hown'; have HO2 := Lib.hid hown'; have HB2 : Hid (Below w1.heap.size w1 w2) := HB.out.alloc HB.out.size _ |>.grown hgrow (by have := HB.out.size; rw [World.size_alloc]; omega) (fun r e => own_ge HO.out e.symm); clear hown' hgrow)
          | (go_at_call 8; refine (code_v (depF 15 k) _ _ _ _ (HT1.out.below (below3 HB2.out)) (dep_vsl (op := 15) HBk.out HO2.out) _ HV.out).mono ?_; rintro e w4 ⟨rfl, hb⟩; have HB4 := hb_step (below3' HB2) hb; clear hb))
        go_ret
        exact ⟨rfl, HW1.out.trans (HB4.out.mono HW1.out.size)⟩
      by_cases h16 : op = 16
      · subst h16
        go_wp2_with (first
          | (at_builtin; refine wpList_append_own _ rfl _ _ 23 rfl w1.heap.size 25 i0 (.agg #[.int .i64 0, .int .i64 0, .int .i64 0]) 3 24 Tryd.underlying23 hi hz0 hz1 hz2 rfl (by decide) _ _ _ rfl (HO.out.alloc _) ⟨wr.heap.size, 0, none⟩ 3 3 (insR [⟨16, 1, 1⟩, pushI, retI]) rfl rfl HC1.out (ins_one _) (by have := HBk.out; unfold maxLen; omega) (by have := HBk.out; omega) (by have := HB.out.size; rw [World.size_alloc]; omega) ?_; intro v' w2 hown' hgrow _; obtain ⟨g', cap', rfl⟩ := ownsRow_succ hown'; have HO2 := Lib.hid hown'; have HB2 : Hid (Below w1.heap.size w1 w2) := HB.out.alloc HB.out.size _ |>.grown hgrow (by have := HB.out.size; rw [World.size_alloc]; omega) (fun r e => own_ge HO.out e.symm); clear hown' hgrow)
          | (go_at_call 8; refine (code_v (depF 16 k) _ _ _ _ (HT1.out.below (below3 HB2.out)) (dep_vsl (op := 16) HBk.out HO2.out) _ HV.out).mono ?_; rintro e w4 ⟨rfl, hb⟩; have HB4 := hb_step (below3' HB2) hb; clear hb))
        go_ret
        exact ⟨rfl, HW1.out.trans (HB4.out.mono HW1.out.size)⟩
      have k15 : (op == 15) = false := by simpa using h15
      have k16 : (op == 16) = false := by simpa using h16
      have hl := dep_law op h15 h16 k hm5
      have hv := HV.out
      rw [hl] at hv
      clear h15 h16
      by_cases h17 : op = 17
      · subst h17
        have HK : Hid (decide (1 ≤ (17 : Int) ∧ (17 : Int) ≤ 25) = true) := by show _ = _; rfl
        by_cases h3 : (3 : Int) ≤ (k : Int)
        · obtain rfl : v = 0 := by rw [← hv, HK.out, decide_eq_true (show takesD 17 ≤ (k : Int) from h3)]; rfl
          clear hv hl
          go_wp2_with (first
            | (at_builtin; refine wpList_append_own _ rfl _ _ 23 rfl w1.heap.size 25 i0 (.agg #[.int .i64 0, .int .i64 0, .int .i64 0]) 3 24 Tryd.underlying23 hi hz0 hz1 hz2 rfl (by decide) _ _ _ rfl (HO.out.alloc _) ⟨wr.heap.size, 0, none⟩ 3 3 (insR [⟨17, 1, 1⟩, pushI, retI]) rfl rfl HC1.out (ins_one _) (by have := HBk.out; unfold maxLen; omega) (by have := HBk.out; omega) (by have := HB.out.size; rw [World.size_alloc]; omega) ?_; intro v' w2 hown' hgrow _; obtain ⟨g', cap', rfl⟩ := ownsRow_succ hown'; have HO2 := Lib.hid hown'; have HB2 : Hid (Below w1.heap.size w1 w2) := HB.out.alloc HB.out.size _ |>.grown hgrow (by have := HB.out.size; rw [World.size_alloc]; omega) (fun r e => own_ge HO.out e.symm); clear hown' hgrow)
            | (go_at_call 8; refine (code_v (depF 17 k) _ _ _ _ (HT1.out.below (below3 HB2.out)) (dep_vsl (op := 17) HBk.out HO2.out) _ HV.out).mono ?_; rintro e w4 ⟨rfl, hb⟩; have HB4 := hb_step (below3' HB2) hb; clear hb)
            | (go_at_call 9; refine (takes_r _ n HIX.out _ (HT1.out.below HB4.out)).mono ?_; rintro e w5 ⟨rfl, hb⟩; have HB5 := hb_step HB4 hb; clear hb)
            | (go_at_call 10; refine (known_r _ _ HK.out _).mono ?_; rintro e w6 ⟨rfl, rfl⟩))
          go_ret
          exact ⟨rfl, HW1.out.trans (HB5.out.mono HW1.out.size)⟩
        · obtain rfl : v = 6 := by rw [← hv, decide_eq_false (show ¬ takesD 17 ≤ (k : Int) from h3)]; simp
          have h3' : decide ((3 : Int) ≤ (k : Int)) = false := decide_eq_false h3
          clear hv hl h3
          go_wp2_with (first
            | (at_builtin; refine wpList_append_own _ rfl _ _ 23 rfl w1.heap.size 25 i0 (.agg #[.int .i64 0, .int .i64 0, .int .i64 0]) 3 24 Tryd.underlying23 hi hz0 hz1 hz2 rfl (by decide) _ _ _ rfl (HO.out.alloc _) ⟨wr.heap.size, 0, none⟩ 3 3 (insR [⟨17, 1, 1⟩, pushI, retI]) rfl rfl HC1.out (ins_one _) (by have := HBk.out; unfold maxLen; omega) (by have := HBk.out; omega) (by have := HB.out.size; rw [World.size_alloc]; omega) ?_; intro v' w2 hown' hgrow _; obtain ⟨g', cap', rfl⟩ := ownsRow_succ hown'; have HO2 := Lib.hid hown'; have HB2 : Hid (Below w1.heap.size w1 w2) := HB.out.alloc HB.out.size _ |>.grown hgrow (by have := HB.out.size; rw [World.size_alloc]; omega) (fun r e => own_ge HO.out e.symm); clear hown' hgrow)
            | (go_at_call 8; refine (code_v (depF 17 k) _ _ _ _ (HT1.out.below (below3 HB2.out)) (dep_vsl (op := 17) HBk.out HO2.out) _ HV.out).mono ?_; rintro e w4 ⟨rfl, hb⟩; have HB4 := hb_step (below3' HB2) hb; clear hb)
            | (go_at_call 9; refine (takes_r _ n HIX.out _ (HT1.out.below HB4.out)).mono ?_; rintro e w5 ⟨rfl, hb⟩; have HB5 := hb_step HB4 hb; clear hb)
            | (go_at_call 10; refine (known_r _ _ HK.out _).mono ?_; rintro e w6 ⟨rfl, rfl⟩))
          go_ret
          exact ⟨rfl, HW1.out.trans (HB5.out.mono HW1.out.size)⟩
      · have k17 : (op == 17) = false := by simpa using h17
        have htk : takesD op = tk n := by unfold takesD; rw [if_neg h17, HIX.out]
        rw [htk] at hv
        clear h17 htk hl
        obtain ⟨kb, hkb⟩ : ∃ kb, decide (1 ≤ op ∧ op ≤ 25) = kb := ⟨_, rfl⟩
        rw [hkb] at hv
        have HK := Lib.hid hkb
        clear hkb
        cases kb with
        | false =>
          obtain rfl : v = 6 := by rw [← hv]; rfl
          clear hv
          go_wp2_with (first
            | (at_builtin; refine wpList_append_own _ rfl _ _ 23 rfl w1.heap.size 25 i0 (.agg #[.int .i64 0, .int .i64 0, .int .i64 0]) 3 24 Tryd.underlying23 hi hz0 hz1 hz2 rfl (by decide) _ _ _ rfl (HO.out.alloc _) ⟨wr.heap.size, 0, none⟩ 3 3 (insR [⟨op, 1, 1⟩, pushI, retI]) rfl rfl HC1.out (ins_one _) (by have := HBk.out; unfold maxLen; omega) (by have := HBk.out; omega) (by have := HB.out.size; rw [World.size_alloc]; omega) ?_; intro v' w2 hown' hgrow _; obtain ⟨g', cap', rfl⟩ := ownsRow_succ hown'; have HO2 := Lib.hid hown'; have HB2 : Hid (Below w1.heap.size w1 w2) := HB.out.alloc HB.out.size _ |>.grown hgrow (by have := HB.out.size; rw [World.size_alloc]; omega) (fun r e => own_ge HO.out e.symm); clear hown' hgrow)
            | (go_at_call 8; refine (code_v (depF op k) _ _ _ _ (HT1.out.below (below3 HB2.out)) (dep_vsl (op := op) HBk.out HO2.out) _ HV.out).mono ?_; rintro e w4 ⟨rfl, hb⟩; have HB4 := hb_step (below3' HB2) hb; clear hb)
            | (go_at_call 9; refine (takes_r _ n HIX.out _ (HT1.out.below HB4.out)).mono ?_; rintro e w5 ⟨rfl, hb⟩; have HB5 := hb_step HB4 hb; clear hb)
            | (go_at_call 10; refine (known_r _ _ HK.out _).mono ?_; rintro e w6 ⟨rfl, rfl⟩))
          go_ret
          exact ⟨rfl, HW1.out.trans (HB5.out.mono HW1.out.size)⟩
        | true =>
          by_cases h3 : tk n ≤ (k : Int)
          · obtain rfl : v = 0 := by rw [← hv, decide_eq_true h3]; rfl
            clear hv
            go_wp2_with (first
              | (at_builtin; refine wpList_append_own _ rfl _ _ 23 rfl w1.heap.size 25 i0 (.agg #[.int .i64 0, .int .i64 0, .int .i64 0]) 3 24 Tryd.underlying23 hi hz0 hz1 hz2 rfl (by decide) _ _ _ rfl (HO.out.alloc _) ⟨wr.heap.size, 0, none⟩ 3 3 (insR [⟨op, 1, 1⟩, pushI, retI]) rfl rfl HC1.out (ins_one _) (by have := HBk.out; unfold maxLen; omega) (by have := HBk.out; omega) (by have := HB.out.size; rw [World.size_alloc]; omega) ?_; intro v' w2 hown' hgrow _; obtain ⟨g', cap', rfl⟩ := ownsRow_succ hown'; have HO2 := Lib.hid hown'; have HB2 : Hid (Below w1.heap.size w1 w2) := HB.out.alloc HB.out.size _ |>.grown hgrow (by have := HB.out.size; rw [World.size_alloc]; omega) (fun r e => own_ge HO.out e.symm); clear hown' hgrow)
              | (go_at_call 8; refine (code_v (depF op k) _ _ _ _ (HT1.out.below (below3 HB2.out)) (dep_vsl (op := op) HBk.out HO2.out) _ HV.out).mono ?_; rintro e w4 ⟨rfl, hb⟩; have HB4 := hb_step (below3' HB2) hb; clear hb)
              | (go_at_call 9; refine (takes_r _ n HIX.out _ (HT1.out.below HB4.out)).mono ?_; rintro e w5 ⟨rfl, hb⟩; have HB5 := hb_step HB4 hb; clear hb)
              | (go_at_call 10; refine (known_r _ _ HK.out _).mono ?_; rintro e w6 ⟨rfl, rfl⟩))
            go_ret
            exact ⟨rfl, HW1.out.trans (HB5.out.mono HW1.out.size)⟩
          · obtain rfl : v = 6 := by rw [← hv, decide_eq_false h3]; rfl
            have h3' : decide (tk n ≤ (k : Int)) = false := decide_eq_false h3
            clear hv h3
            go_wp2_with (first
              | (at_builtin; refine wpList_append_own _ rfl _ _ 23 rfl w1.heap.size 25 i0 (.agg #[.int .i64 0, .int .i64 0, .int .i64 0]) 3 24 Tryd.underlying23 hi hz0 hz1 hz2 rfl (by decide) _ _ _ rfl (HO.out.alloc _) ⟨wr.heap.size, 0, none⟩ 3 3 (insR [⟨op, 1, 1⟩, pushI, retI]) rfl rfl HC1.out (ins_one _) (by have := HBk.out; unfold maxLen; omega) (by have := HBk.out; omega) (by have := HB.out.size; rw [World.size_alloc]; omega) ?_; intro v' w2 hown' hgrow _; obtain ⟨g', cap', rfl⟩ := ownsRow_succ hown'; have HO2 := Lib.hid hown'; have HB2 : Hid (Below w1.heap.size w1 w2) := HB.out.alloc HB.out.size _ |>.grown hgrow (by have := HB.out.size; rw [World.size_alloc]; omega) (fun r e => own_ge HO.out e.symm); clear hown' hgrow)
              | (go_at_call 8; refine (code_v (depF op k) _ _ _ _ (HT1.out.below (below3 HB2.out)) (dep_vsl (op := op) HBk.out HO2.out) _ HV.out).mono ?_; rintro e w4 ⟨rfl, hb⟩; have HB4 := hb_step (below3' HB2) hb; clear hb)
              | (go_at_call 9; refine (takes_r _ n HIX.out _ (HT1.out.below HB4.out)).mono ?_; rintro e w5 ⟨rfl, hb⟩; have HB5 := hb_step HB4 hb; clear hb)
              | (go_at_call 10; refine (known_r _ _ HK.out _).mono ?_; rintro e w6 ⟨rfl, rfl⟩))
            go_ret
            exact ⟨rfl, HW1.out.trans (HB5.out.mono HW1.out.size)⟩
theorem depths_walk (op ps : Int) (w : World) (ht : Tab w) :
    Calls Tryd.prog 3 #[.int .i64 op, .int .i64 ps] w fun e w' => e = .returned (.bool true) ∧ Below w.heap.size w w' := by
  obtain ⟨x, hx, x0, x1⟩ := bits_16 ps
  obtain ⟨m, hm⟩ : ∃ m : Nat, x % 6 = (m : Int) := ⟨(x % 6).toNat, by omega⟩
  exact depths_core op ps x hx x0 m hm (by omega) _ rfl _ rfl w ht
end Go.Proofs.YthfgagljplabpaaDoor
