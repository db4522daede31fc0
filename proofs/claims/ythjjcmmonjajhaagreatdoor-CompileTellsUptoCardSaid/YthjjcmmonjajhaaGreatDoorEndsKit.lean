/- What a resolved program is like: its parts, its ops, its numbers; what is compiled of it is known, and its jumps stay within. -/
import Derived.Test.YthjjcmmonjajhaaGreatDoorCompRep
namespace Go.Proofs.YthjjcmmonjajhaaGreatDoor
open Go.RowKit Go.Sort
set_option linter.unusedVariables false

theorem PT.all_len (p : PT) : p.all.length = 1 + p.funcs.length := by unfold PT.all; simp; omega
theorem PT.scopes_len (p : PT) : p.scopes.length = p.all.length := by unfold PT.scopes; simp
theorem PT.code_len9 (p : PT) : p.code.length = p.all.length := by unfold PT.code; simp
theorem PT.scope_at (p : PT) {k : Nat} (h : k < p.all.length) : p.scopes.getD k default = FT.sc p.funcs (p.all.getD k default) := by
  unfold PT.scopes
  rw [List.getD_eq_getElem?_getD, List.getElem?_map, List.getElem?_eq_getElem h, List.getD_eq_getElem?_getD, List.getElem?_eq_getElem h]; rfl
theorem PT.code_at (p : PT) {k : Nat} (h : k < p.all.length) : p.code.getD k default = FT.vf p (p.all.getD k default) := by
  unfold PT.code
  rw [List.getD_eq_getElem?_getD, List.getElem?_map, List.getElem?_eq_getElem h, List.getD_eq_getElem?_getD, List.getElem?_eq_getElem h]; rfl
theorem PT.all_succ (p : PT) (i : Nat) : p.all.getD (i + 1) default = p.funcs.getD i default := by unfold PT.all; simp
/-- How many parts an expression has. -/
theorem expr_parts {o n : Int} {s : ByteArray} {k : Nat} (h : exprB o n s k = true) : 1 ≤ o ∧ o < 17 ∧ (o ≠ 5 → (k : Int) = (exprRow o.toNat).2.2.2.1) ∧ (o = 1 → n ≥ 0) := by
  unfold exprB at h
  obtain ⟨h1, h2⟩ := (Bool.and_eq_true _ _).mp h
  have h1 := of_decide_eq_true h1
  refine ⟨h1.1, h1.2, fun h5 => ?_, fun ho => ?_⟩
  · unfold exprFits fitsB at h2
    have h3 := ((Bool.and_eq_true _ _).mp h2).1
    unfold manyB at h3
    rcases (Bool.or_eq_true _ _).mp h3 with h | h
    · simpa using h
    · exfalso
      have h4 := of_decide_eq_true ((Bool.and_eq_true _ _).mp h).1
      have hc : o = 1 ∨ o = 2 ∨ o = 3 ∨ o = 4 ∨ o = 6 ∨ o = 7 ∨ o = 8 ∨ o = 9 ∨ o = 10 ∨ o = 11 ∨ o = 12 ∨ o = 13 ∨ o = 14 ∨ o = 15 ∨ o = 16 := by omega
      rcases hc with rfl | rfl | rfl | rfl | rfl | rfl | rfl | rfl | rfl | rfl | rfl | rfl | rfl | rfl | rfl <;> exact absurd h4 (by decide)
  · subst ho
    unfold exprFits fitsB at h2
    have h3 := ((Bool.and_eq_true _ _).mp ((Bool.and_eq_true _ _).mp h2).2).1
    have := of_decide_eq_true h3
    have e : (exprRow (1 : Int).toNat).2.1 = 0 := by decide
    omega
theorem stmt_parts {o n : Int} {s : ByteArray} {k b e : Nat} (h : stmtB o n s k b e = true) : 1 ≤ o ∧ o < 10 ∧ (k : Int) = (stmtRow o.toNat).2.2.2.1 ∧ (stmtRow o.toNat).2.1 ≤ n ∧ n ≤ (stmtRow o.toNat).2.2.1 ∧ ((stmtRow o.toNat).1 = true → nameB s = true) := by
  unfold stmtB at h
  obtain ⟨h1, h2⟩ := (Bool.and_eq_true _ _).mp h
  have h1 := of_decide_eq_true h1
  have h2 := ((Bool.and_eq_true _ _).mp h2).1
  unfold stmtFits fitsB at h2
  obtain ⟨h3, h4⟩ := (Bool.and_eq_true _ _).mp h2
  obtain ⟨h5, h6⟩ := (Bool.and_eq_true _ _).mp h4
  obtain ⟨h6, h7⟩ := (Bool.and_eq_true _ _).mp h6
  refine ⟨h1.1, h1.2, ?_, of_decide_eq_true h5, of_decide_eq_true h6, fun hn => ?_⟩
  · unfold manyB at h3
    rcases (Bool.or_eq_true _ _).mp h3 with h | h
    · simpa using h
    · exfalso
      have h4 := of_decide_eq_true ((Bool.and_eq_true _ _).mp h).1
      have hc : o = 1 ∨ o = 2 ∨ o = 3 ∨ o = 4 ∨ o = 5 ∨ o = 6 ∨ o = 7 ∨ o = 8 ∨ o = 9 := by omega
      rcases hc with rfl | rfl | rfl | rfl | rfl | rfl | rfl | rfl | rfl <;> exact absurd h4 (by decide)
  · rw [if_pos hn] at h7; exact h7
theorem addL_ge (l : List ByteArray) (s : ByteArray) : l.length ≤ (addL l s).length := by
  unfold addL; split
  · omega
  · simp
mutual
theorem ET.gather_vl (cl : ByteArray → Nat → Bool) : ∀ (e : ET) (st : FS), st.vars.length ≤ (e.gather cl st).vars.length
  | .mk o n s l, st => by
    simp only [ET.gather]
    refine Nat.le_trans ?_ (ET.gatherL_vl cl l _)
    split
    · exact addL_ge _ _
    · split
      · exact Nat.le_refl _
      · split <;> exact Nat.le_refl _
theorem ET.gatherL_vl (cl : ByteArray → Nat → Bool) : ∀ (l : List ET) (st : FS), st.vars.length ≤ (ET.gatherL cl l st).vars.length
  | [], st => Nat.le_refl _
  | e :: r, st => Nat.le_trans (ET.gather_vl cl e st) (ET.gatherL_vl cl r _)
end
mutual
theorem ST.gather_vl (cl : ByteArray → Nat → Bool) : ∀ (e : ST) (st : FS), st.vars.length ≤ (e.gather cl st).vars.length
  | .mk o n s l b e, st => by
    simp only [ST.gather]
    refine Nat.le_trans ?_ (Nat.le_trans (ET.gatherL_vl cl l _) (Nat.le_trans (ST.gatherL_vl cl b _) (ST.gatherL_vl cl e _)))
    unfold ST.own
    split
    · exact Nat.le_refl _
    · split
      · exact Nat.le_refl _
      · split
        · exact addL_ge _ _
        · exact Nat.le_refl _
theorem ST.gatherL_vl (cl : ByteArray → Nat → Bool) : ∀ (l : List ST) (st : FS), st.vars.length ≤ (ST.gatherL cl l st).vars.length
  | [], st => Nat.le_refl _
  | e :: r, st => Nat.le_trans (ST.gather_vl cl e st) (ST.gatherL_vl cl r _)
end
theorem PT.resolve_parts {p : PT} (h : p.resolve = 0) : p.right = 0 ∧ dupB p.funcs = false ∧ ∀ f ∈ p.all, (f.found p.funcs).fits = true ∧ (f.found p.funcs).full = false := by
  have h0 : p.right = 0 := by
    by_cases h0 : p.right = 0
    · exact h0
    · unfold PT.resolve at h; rw [if_neg h0] at h; exact absurd h h0
  unfold PT.resolve at h
  rw [if_pos h0] at h
  cases hd : dupB p.funcs with
  | true => rw [hd, if_pos rfl] at h; cases h
  | false =>
    rw [hd, if_neg (by decide)] at h
    cases hf : p.all.any (fun f => !(f.found p.funcs).fits) with
    | true => rw [hf, if_pos rfl] at h; cases h
    | false =>
      rw [hf, if_neg (by decide)] at h
      cases hu : p.all.any (fun f => (f.found p.funcs).full) with
      | true => rw [hu, if_pos rfl] at h; cases h
      | false =>
        refine ⟨h0, rfl, fun f hm => ⟨?_, ?_⟩⟩
        · have := List.any_eq_false.1 hf f hm
          simpa using this
        · have := List.any_eq_false.1 hu f hm
          simpa using this
theorem FT.fits_parts {st : FS} (h : st.fits = true) : st.wrong = false := by
  unfold FS.fits at h
  have := ((Bool.and_eq_true _ _).mp h).1
  simpa using this
theorem PT.bodies_all {p : PT} (h : p.nodes.all (·.1) = true) : ∀ f ∈ p.all, (ST.nodesL f.body 1).all (·.1) = true := by
  unfold PT.nodes at h
  rw [List.all_append, Bool.and_eq_true] at h
  intro f hf
  unfold PT.all at hf
  rcases List.mem_cons.1 hf with rfl | hf
  · exact h.2
  · rw [List.all_eq_true]
    intro x hx
    exact List.all_eq_true.1 h.1 x (List.mem_flatMap.2 ⟨f, hf, hx⟩)
theorem getD_map9 {α β : Type} (l : List α) (h : α → β) (z : α) (y : β) {k : Nat} (hk : k < l.length) : (l.map h).getD k y = h (l.getD k z) := by
  rw [List.getD_eq_getElem?_getD, List.getElem?_map, List.getElem?_eq_getElem hk, List.getD_eq_getElem?_getD, List.getElem?_eq_getElem hk]; rfl
/-- Parameters that are not twice are as many variables. -/
theorem params_fit : ∀ (l : List ByteArray) (st : FS), (l.foldl FS.param st).wrong = false → st.vars.length + l.length ≤ (l.foldl FS.param st).vars.length ∧ st.wrong = false
  | [], st, h => ⟨by simp, h⟩
  | s :: r, st, h => by
    obtain ⟨h1, h2⟩ := params_fit r (FS.param st s) h
    have h3 : memB st.vars s = false ∧ st.wrong = false := by
      have : (memB st.vars s || st.wrong) = false := h2
      simpa using this
    have h4 : (FS.param st s).vars.length = st.vars.length + 1 := by
      show (addL st.vars s).length = _
      unfold addL
      rw [h3.1]
      simp
    refine ⟨?_, h3.2⟩
    have : ((s :: r).foldl FS.param st) = r.foldl FS.param (FS.param st s) := rfl
    rw [this, List.length_cons]; omega

/-- An instruction that is known, of numbers that fit, whose jump goes no farther than so far. -/
structure OkI (k : Nat) (i : VI) : Prop where
  op : 1 ≤ i.op ∧ i.op ≤ 25
  a : -9223372036854775808 ≤ i.a ∧ i.a ≤ 9223372036854775807
  n : -9223372036854775808 ≤ i.n ∧ i.n ≤ 9223372036854775807
  jump : i.op = 15 ∨ i.op = 16 → 0 ≤ i.a ∧ i.a ≤ k
theorem OkI.far {k m : Nat} {i : VI} (h : OkI k i) (hm : k ≤ m) : OkI m i := ⟨h.op, h.a, h.n, fun x => by have := h.jump x; omega⟩
theorem expr_num {o n : Int} {s : ByteArray} {k : Nat} (h : exprB o n s k = true) : 0 ≤ n ∧ n ≤ 9223372036854775807 := by
  unfold exprB at h
  obtain ⟨h1, h2⟩ := (Bool.and_eq_true _ _).mp h
  have h1 := of_decide_eq_true h1
  unfold exprFits fitsB at h2
  obtain ⟨_, h4⟩ := (Bool.and_eq_true _ _).mp h2
  obtain ⟨h5, h6⟩ := (Bool.and_eq_true _ _).mp h4
  obtain ⟨h6, _⟩ := (Bool.and_eq_true _ _).mp h6
  have h5 := of_decide_eq_true h5
  have h6 := of_decide_eq_true h6
  have hc : o = 1 ∨ o = 2 ∨ o = 3 ∨ o = 4 ∨ o = 5 ∨ o = 6 ∨ o = 7 ∨ o = 8 ∨ o = 9 ∨ o = 10 ∨ o = 11 ∨ o = 12 ∨ o = 13 ∨ o = 14 ∨ o = 15 ∨ o = 16 := by omega
  have key : ∀ j : Nat, j < 17 → (exprRow j).2.1 = 0 ∧ (exprRow j).2.2.1 ≤ 9223372036854775807 := by decide
  have := key o.toNat (by omega)
  omega
theorem stmt_num {o n : Int} {s : ByteArray} {k b e : Nat} (h : stmtB o n s k b e = true) : 0 ≤ n ∧ n ≤ 4096 := by
  obtain ⟨h1, h2, _, h3, h4, _⟩ := stmt_parts h
  have key : ∀ j : Nat, j < 10 → 0 ≤ (stmtRow j).2.1 ∧ (stmtRow j).2.2.1 ≤ 4096 := by decide
  have := key o.toNat (by omega)
  omega
section
variable {all : List SC} {sc : SC}
theorem insE_ok (hv : sc.vars.length ≤ 1000) (ha : sc.arrays.length ≤ 1000) (hl : all.length ≤ 1000) {o n : Int} {s : ByteArray} {m : Nat} (hx : exprB o n s m = true) (k : Nat) : OkI k (insE all sc o n s) := by
  obtain ⟨h1, h2, _, _⟩ := expr_parts hx
  obtain ⟨n1, n2⟩ := expr_num hx
  have r1 := firstI_range sc.vars.length fun i => s.toList == (sc.vars.getD i ByteArray.empty).toList
  have r2 := firstI_range sc.arrays.length fun i => s.toList == (sc.arrays.getD i ByteArray.empty).toList
  have r3 := firstI_range all.length fun i => decide (0 < i) && ((all.getD i default).name.toList == s.toList)
  unfold insE slotI findI
  by_cases e1 : o = 1
  · rw [if_pos e1]; exact ⟨by dsimp only; omega, by dsimp only; omega, ⟨by dsimp only; omega, by dsimp only; omega⟩, fun h => by dsimp only at h; omega⟩
  · rw [if_neg e1]
    by_cases e2 : o = 2
    · rw [if_pos e2]; exact ⟨by dsimp only; omega, by dsimp only; omega, by dsimp only; omega, fun h => by dsimp only at h; omega⟩
    · rw [if_neg e2]
      by_cases e3 : o = 3
      · rw [if_pos e3]; exact ⟨by dsimp only; omega, by dsimp only; omega, by dsimp only; omega, fun h => by dsimp only at h; omega⟩
      · rw [if_neg e3]
        by_cases e4 : o = 4
        · rw [if_pos e4]; exact ⟨by dsimp only; omega, by dsimp only; omega, by dsimp only; omega, fun h => by dsimp only at h; omega⟩
        · rw [if_neg e4]
          by_cases e5 : o = 5
          · rw [if_pos e5]; exact ⟨by dsimp only; omega, by dsimp only; omega, by dsimp only; omega, fun h => by dsimp only at h; omega⟩
          · rw [if_neg e5]
            have : wrap64 (wrap64 (o - 6) + 4) = o - 2 := by unfold wrap64; omega
            rw [this]
            exact ⟨by dsimp only; omega, by dsimp only; omega, by dsimp only; omega, fun h => by dsimp only at h; omega⟩
theorem insS_ok (hv : sc.vars.length ≤ 1000) (ha : sc.arrays.length ≤ 1000) {o n : Int} {s : ByteArray} {m b e : Nat} (hx : stmtB o n s m b e = true) (hb : ¬ (o = 7 ∨ o = 8)) (k : Nat) : OkI k (insS sc o n s) := by
  obtain ⟨h1, h2, _⟩ := stmt_parts hx
  obtain ⟨n1, n2⟩ := stmt_num hx
  have r1 := firstI_range sc.vars.length fun i => s.toList == (sc.vars.getD i ByteArray.empty).toList
  have r2 := firstI_range sc.arrays.length fun i => s.toList == (sc.arrays.getD i ByteArray.empty).toList
  have hc : o = 1 ∨ o = 2 ∨ o = 3 ∨ o = 4 ∨ o = 5 ∨ o = 6 ∨ o = 9 := by omega
  unfold insS slotI
  rcases hc with rfl | rfl | rfl | rfl | rfl | rfl | rfl
  · rw [if_pos rfl]; exact ⟨by dsimp only; omega, by dsimp only; omega, by dsimp only; omega, fun h => by dsimp only at h; omega⟩
  · rw [if_neg (by decide), if_pos rfl]; exact ⟨by dsimp only; omega, by dsimp only; omega, by dsimp only; omega, fun h => by dsimp only at h; omega⟩
  · rw [if_neg (by decide), if_neg (by decide), if_pos rfl]; exact ⟨by dsimp only; omega, by dsimp only; omega, by dsimp only; omega, fun h => by dsimp only at h; omega⟩
  · rw [if_neg (by decide), if_neg (by decide), if_neg (by decide), if_pos rfl]; exact ⟨by dsimp only; omega, by dsimp only; omega, by dsimp only; split <;> omega, fun h => by dsimp only at h; omega⟩
  · exact (⟨by dsimp only; omega, by dsimp only; omega, by dsimp only; omega, fun h => by dsimp only at h; omega⟩ : OkI k ⟨19, 0, 0⟩)
  · exact (⟨by dsimp only; omega, by dsimp only; omega, by dsimp only; omega, fun h => by dsimp only at h; omega⟩ : OkI k ⟨20, 0, 0⟩)
  · exact (⟨by dsimp only; omega, by dsimp only; omega, by dsimp only; omega, fun h => by dsimp only at h; omega⟩ : OkI k ⟨18, 0, 0⟩)
mutual
theorem ET.code_ok (hv : sc.vars.length ≤ 1000) (ha : sc.arrays.length ≤ 1000) (hl : all.length ≤ 1000) : ∀ (e : ET) (d : Int) (k : Nat), (e.nodes d).all (·.1) = true → ∀ i ∈ e.code all sc, OkI k i
  | .mk o n s l, d, k, hn, i, hi => by
    simp only [ET.nodes, List.all_cons, Bool.and_eq_true] at hn
    simp only [ET.code] at hi
    rcases List.mem_append.1 hi with hi | hi
    · exact ET.codeL_ok hv ha hl l _ k hn.2 i hi
    · rw [List.mem_singleton.1 hi]; exact insE_ok hv ha hl hn.1 k
theorem ET.codeL_ok (hv : sc.vars.length ≤ 1000) (ha : sc.arrays.length ≤ 1000) (hl : all.length ≤ 1000) : ∀ (l : List ET) (d : Int) (k : Nat), (ET.nodesL l d).all (·.1) = true → ∀ i ∈ ET.codeL all sc l, OkI k i
  | [], _, _, _, i, hi => by simp [ET.codeL] at hi
  | e :: r, d, k, hn, i, hi => by
    simp only [ET.nodesL, List.all_append, Bool.and_eq_true] at hn
    simp only [ET.codeL] at hi
    rcases List.mem_append.1 hi with hi | hi
    · exact ET.code_ok hv ha hl e _ k hn.1 i hi
    · exact ET.codeL_ok hv ha hl r _ k hn.2 i hi
end
theorem jump_okI {op a : Int} {k : Nat} (ho : op = 15 ∨ op = 16) (h0 : 0 ≤ a) (h1 : a ≤ k) (hk : k ≤ 1000000000) : OkI k ⟨op, a, 0⟩ := ⟨by dsimp only; omega, by dsimp only; omega, by dsimp only; omega, fun _ => ⟨h0, h1⟩⟩
mutual
theorem ST.code_ok (hv : sc.vars.length ≤ 1000) (ha : sc.arrays.length ≤ 1000) (hl : all.length ≤ 1000) : ∀ (s : ST) (at_ : Nat) (d : Int), (s.nodes d).all (·.1) = true → at_ + (s.code all sc at_).length ≤ 1000000000 → ∀ i ∈ s.code all sc at_, OkI (at_ + (s.code all sc at_).length) i
  | .mk o n s l b e, at_, d, hn, hlen, i, hi => by
    simp only [ST.nodes, List.all_cons, List.all_append, Bool.and_eq_true] at hn
    obtain ⟨hn1, hn2, hn3, hn4⟩ := hn
    revert hlen hi
    simp only [ST.code]
    by_cases h : o = 7 ∨ o = 8
    · rw [if_pos h]
      by_cases h7 : o = 7
      · rw [if_pos h7]
        generalize hx : ET.codeL all sc l = x
        generalize hbc : ST.codeL all sc b (at_ + x.length + 1) = bc
        generalize hec : ST.codeL all sc e (at_ + x.length + 1 + bc.length + 1) = ec
        intro hlen hi
        simp only [List.length_append, List.length_cons, List.length_nil] at hlen ⊢
        simp only [List.mem_append, List.mem_singleton] at hi
        rcases hi with (((hi | hi) | hi) | hi) | hi
        · exact ET.codeL_ok hv ha hl l _ _ hn2 i (by rw [hx]; exact hi)
        · rw [hi]; exact jump_okI (.inr rfl) (by omega) (by omega) (by omega)
        · exact (ST.codeL_ok hv ha hl b (at_ + x.length + 1) _ hn3 (by rw [hbc]; omega) i (by rw [hbc]; exact hi)).far (by rw [hbc]; omega)
        · rw [hi]; exact jump_okI (.inl rfl) (by omega) (by omega) (by omega)
        · exact (ST.codeL_ok hv ha hl e (at_ + x.length + 1 + bc.length + 1) _ hn4 (by rw [hec]; omega) i (by rw [hec]; exact hi)).far (by rw [hec]; omega)
      · rw [if_neg h7]
        generalize hx : ET.codeL all sc l = x
        generalize hbc : ST.codeL all sc b (at_ + x.length + 1) = bc
        intro hlen hi
        simp only [List.length_append, List.length_cons, List.length_nil] at hlen ⊢
        simp only [List.mem_append, List.mem_singleton] at hi
        rcases hi with ((hi | hi) | hi) | hi
        · exact ET.codeL_ok hv ha hl l _ _ hn2 i (by rw [hx]; exact hi)
        · rw [hi]; exact jump_okI (.inr rfl) (by omega) (by omega) (by omega)
        · exact (ST.codeL_ok hv ha hl b (at_ + x.length + 1) _ hn3 (by rw [hbc]; omega) i (by rw [hbc]; exact hi)).far (by rw [hbc]; omega)
        · rw [hi]; exact jump_okI (.inl rfl) (by omega) (by omega) (by omega)
    · rw [if_neg h]
      intro hlen hi
      rcases List.mem_append.1 hi with hi | hi
      · exact ET.codeL_ok hv ha hl l _ _ hn2 i hi
      · rw [List.mem_singleton.1 hi]; exact insS_ok hv ha hn1 h _
theorem ST.codeL_ok (hv : sc.vars.length ≤ 1000) (ha : sc.arrays.length ≤ 1000) (hl : all.length ≤ 1000) : ∀ (l : List ST) (at_ : Nat) (d : Int), (ST.nodesL l d).all (·.1) = true → at_ + (ST.codeL all sc l at_).length ≤ 1000000000 → ∀ i ∈ ST.codeL all sc l at_, OkI (at_ + (ST.codeL all sc l at_).length) i
  | [], _, _, _, _, i, hi => by simp [ST.codeL] at hi
  | s :: r, at_, d, hn, hlen, i, hi => by
    simp only [ST.nodesL, List.all_append, Bool.and_eq_true] at hn
    simp only [ST.codeL, List.length_append] at hlen hi ⊢
    rcases List.mem_append.1 hi with hi | hi
    · exact (ST.code_ok hv ha hl s at_ _ hn.1 (by omega) i hi).far (by omega)
    · exact (ST.codeL_ok hv ha hl r _ _ hn.2 (by omega) i hi).far (by omega)
end
end
/-- What is compiled of a function of a resolved program: its length, its instructions, its end. -/
theorem FT.code_ok {p : PT} (h0 : p.resolve = 0) (hN : p.nodes.length ≤ 2000000) {f : FT} (hf : f ∈ p.all) :
    ∃ L : List VI, f.code p = L ++ [⟨1, 0, 0⟩] ++ [⟨18, 0, 0⟩] ∧ L.length ≤ 4000000 ∧ ∀ i ∈ f.code p, OkI L.length i := by
  obtain ⟨hr, _, hall⟩ := PT.resolve_parts h0
  obtain ⟨hfit, hfull⟩ := hall f hf
  obtain ⟨_, hnodes, _⟩ := PT.right0 hr
  obtain ⟨h33, hok⟩ := PT.all_ok hr hN
  have hcl := FT.code_len p (hok f hf)
  unfold FS.full at hfull
  simp only [Bool.or_eq_false_iff, decide_eq_false_iff_not] at hfull
  have key := ST.codeL_ok (all := p.scopes) (sc := FT.sc p.funcs f) (by show (f.found p.funcs).vars.length ≤ _; omega) (by show (f.found p.funcs).arrays.length ≤ _; omega) (by rw [p.scopes_len]; omega) f.body 0 1 (PT.bodies_all hnodes f hf) (by omega)
  refine ⟨ST.codeL p.scopes (FT.sc p.funcs f) f.body 0, rfl, by omega, fun i hi => ?_⟩
  unfold FT.code at hi
  simp only [List.mem_append, List.mem_singleton] at hi
  rcases hi with (hi | hi) | hi
  · exact (key i hi).far (by omega)
  · rw [hi]; exact ⟨by decide, by decide, by decide, fun h => by rcases h with h | h <;> exact absurd h (by decide)⟩
  · rw [hi]; exact ⟨by decide, by decide, by decide, fun h => by rcases h with h | h <;> exact absurd h (by decide)⟩
end Go.Proofs.YthjjcmmonjajhaaGreatDoor
