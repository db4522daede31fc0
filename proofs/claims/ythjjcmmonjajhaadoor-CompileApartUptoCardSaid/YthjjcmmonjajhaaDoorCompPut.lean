/- put, lands; Slot, Find, Secret. -/
import Derived.Test.YthjjcmmonjajhaaDoorCompDefs
import Derived.Deep.QuietTactic
namespace Go.Proofs.YthjjcmmonjajhaaDoor
open Go.RowKit Go.Sort
set_option linter.unusedVariables false

theorem Wk.put {n0 wb j : Nat} {W w2 : World} {o : Obj} {row : Option Nat} {u : Value} (hn : n0 ≤ W.heap.size) (hwb : n0 ≤ wb) (hg : (W.alloc o).grownBy w2 row) (hrow : ∀ k, row = some k → n0 ≤ k ∧ ∃ cs fr, W.heap[k]? = some (.cells cs 45 fr)) : Wk n0 wb W (w2.setCell ⟨wb, j, none⟩ u) := by
  have hs := hg.size
  rw [World.size_alloc] at hs
  refine ⟨(((Below.refl n0 W).alloc hn o).grown hg (by rw [World.size_alloc]; omega) (fun k hk => (hrow k hk).1)).setCell (p := ⟨wb, j, none⟩) hwb u, fun k o' hk hne ho' => ?_⟩
  have hlt := lt_of_heap hk
  rw [Below.heap_setCell _ _ _ k hne, hg.block k (by rw [World.size_alloc]; omega) (fun e => ?_), Below.heap_alloc W o k hlt, hk]
  obtain ⟨_, cs, fr, h⟩ := hrow k e.symm
  rw [hk] at h
  exact ho' cs fr (Option.some.inj h)
theorem own_row_ins {w : World} {base size n : Nat} {e : TypeId} {v : Value} {xs : List Value} (h : w.ownsRow base e size v n xs) : ∀ k, v.ownBlock = some k → base ≤ k ∧ ∃ cs fr, w.heap[k]? = some (.cells cs e fr) := by
  intro k hk
  obtain ⟨_, ⟨rfl, _⟩ | ⟨g, cap, cur, rfl, hb, hg, _⟩⟩ := h
  · simp [Value.ownBlock] at hk
  · simp only [Value.ownBlock, Option.some.injEq] at hk
    subst hk
    exact ⟨hb, cur, (0, 0), hg⟩
set_option maxHeartbeats 4000000 in
set_option maxRecDepth 1000000 in
theorem put_r (n0 wb : Nat) (sc : SC) (vv av all : Value) (l : List VI) (o a n : Int) (W : World) (hw : Wr n0 W wb sc vv av all l) (hl : l.length ≤ 4194304) :
    Calls Tryd.prog 15 #[.pointer (some ⟨wb, 0, none⟩), .int .i64 o, .int .i64 a, .int .i64 n] W fun e w' => e = .returned (.int .i64 l.length) ∧ Wk n0 wb W w' ∧ Wr n0 w' wb sc vv av all (l ++ [⟨o, a, n⟩]) := by
  obtain ⟨i0, hi, hz0, hz1, hz2⟩ := info_parts infoI
  obtain ⟨hge, lv, hb, ho⟩ := hw
  have hlt := lt_of_heap hb
  have c5 : W.cell? ⟨wb, 5, none⟩ = some lv := cell_of_heap hb 5
  have HO := Lib.hid ho
  have HBX := Lib.hid hb
  have HL := Lib.hid hl
  obtain ⟨la, lc, rfl⟩ := own_shape ho
  have hne := own_ne_box ho hb (by decide)
  have HC1 : Hid (∀ j u, (insC ⟨o, a, n⟩)[j]? = some u → (W.alloc (.cells #[.int .i64 o, .int .i64 a, .int .i64 n] 45)).cell? ((⟨W.heap.size, 0, none⟩ : Addr).add j) = some u) := fun j u h => by
    have e : (⟨W.heap.size, 0, none⟩ : Addr).add j = ⟨W.heap.size, j, none⟩ := by unfold Addr.add; split <;> simp_all
    rw [e, cell_of_heap (heap_alloc_new W _)]
    simpa [insC] using h
  have HNE := Lib.hid hne
  clear ho hb hne
  go_enter Tryd.func15, Tryd.ntmps15
  go_wp2_with (at_builtin; refine wpList_append_own _ rfl _ _ 37 rfl n0 45 i0 (.agg #[.int .i64 0, .int .i64 0, .int .i64 0]) 3 24 Tryd.underlying37 hi hz0 hz1 hz2 rfl (by decide) _ _ _ rfl (HO.out.alloc _) ⟨W.heap.size, 0, none⟩ 1 1 (insC ⟨o, a, n⟩) rfl rfl HC1.out (by intro u hu; simp [insC] at hu; rcases hu with rfl | rfl | rfl <;> rfl) (by have := HL.out; unfold maxLen; omega) (by have := HL.out; omega) (by rw [World.size_alloc]; omega) ?_; intro v' w2 hown' hgrow hx; clear hx; obtain ⟨g', cap', rfl⟩ := ownsRow_succ' hown'; have HB2 := Lib.hid ((hgrow.block wb (by rw [World.size_alloc]; omega) HNE.out).trans ((Below.heap_alloc W _ wb hlt).trans HBX.out)); have HG := Lib.hid hgrow; have HO2 := Lib.hid hown'; have d0 : w2.cell? ⟨wb, 5, none⟩ = some (.slice la l.length lc) := cell_of_heap HB2.out 5; have d5 : w2.frozen? ⟨wb, 5, none⟩ = false := free_of_heap HB2.out 5; clear hown' hgrow)
  go_ret
  refine ⟨by go_num, Wk.put (by omega) hge HG.out (own_row_ins HO.out), hge, _, heap_set HB2.out 5 _, ?_⟩
  have e : insR [⟨o, a, n⟩] = insC ⟨o, a, n⟩ := by simp [insR]
  rw [insR_append, e, List.length_append]
  exact HO2.out.kept (grown_set w2 _ 5 _) (.inr (fun e => own_ne_box HO2.out HB2.out (by decide) e.symm))

theorem idx_ne {w : World} {base n : Nat} {e : TypeId} {size : Nat} {v : Value} {xs : List Value} (h : w.ownsRow base e size v n xs) (hn : 0 < n) : ∃ g cap, v = .slice (some ⟨g, 0, none⟩) n cap ∧ n ≤ cap ∧ cap ≤ 9223372036854775807 ∧ base ≤ g ∧ ∃ cur, w.heap[g]? = some (.cells cur e (0, 0)) ∧ cur.size = cap * size ∧ cur.toList.take (n * size) = xs := by
  obtain ⟨_, ⟨_, h0⟩ | ⟨g, cap, cur, rfl, h1, h2, h3, h4, h5, h6⟩⟩ := h
  · omega
  · exact ⟨g, cap, rfl, h3, h4, h1, cur, h2, h5, h6⟩
/-- An instruction's target, set. -/
def landV (l : List VI) (k : Nat) : List VI := l.set k ⟨(l.getD k default).op, l.length, (l.getD k default).n⟩
theorem landV_length (l : List VI) (k : Nat) : (landV l k).length = l.length := by simp [landV]
theorem insR_set (l : List VI) (k : Nat) (hk : k < l.length) (a : Int) : (insR l).set (k * 3 + 1) (.int .i64 a) = insR (l.set k ⟨(l.getD k default).op, a, (l.getD k default).n⟩) := by
  induction l generalizing k with
  | nil => simp at hk
  | cons x l ih =>
    have e : ∀ y : VI, ∀ r, insR (y :: r) = insC y ++ insR r := fun y r => by simp [insR]
    cases k with
    | zero => rw [e, List.set_cons_zero, e]; simp [insC]
    | succ k =>
      rw [e, List.set_cons_succ, e]
      have h1 := ih k (by simpa using hk)
      rw [List.set_append_right _ _ (by show 3 ≤ _; omega)]
      have : (k + 1) * 3 + 1 - (insC x).length = k * 3 + 1 := by show (k + 1) * 3 + 1 - 3 = _; omega
      rw [this, h1]; simp
theorem own_set {w : World} {base n : Nat} {e : TypeId} {size g cap : Nat} {xs : List Value} (h : w.ownsRow base e size (.slice (some ⟨g, 0, none⟩) n cap) n xs) (j : Nat) (v : Value) : (w.setCell ⟨g, j, none⟩ v).ownsRow base e size (.slice (some ⟨g, 0, none⟩) n cap) n (xs.set j v) := by
  obtain ⟨hl, ⟨h0, _⟩ | ⟨g', cap', cur, hv, h1, h2, h3, h4, h5, h6⟩⟩ := h
  · cases h0
  · cases hv
    refine ⟨by simpa using hl, .inr ⟨g, cap, cur.setIfInBounds j v, rfl, h1, heap_set h2 j v, h3, h4, by simpa using h5, ?_⟩⟩
    rw [← h6, Array.toList_setIfInBounds, List.take_set]

end Go.Proofs.YthjjcmmonjajhaaDoor
