/- Plain laws of TreeSame and TreeEqual: sameness is an equivalence; the nodes of rows in another order. -/
import Derived.Test.YtplckmpamekloaaDoorTreeTwin3
namespace Go.Proofs.YtplckmpamekloaaDoor
open Go.RowKit Go.Sort
set_option linter.unusedVariables false

mutual
theorem ET.same_refl : ∀ e : ET, ET.same e e = true
  | .mk o n s l => by simp only [ET.same, beq_self_eq_true, Bool.true_and]; exact ET.sameL_refl l
theorem ET.sameL_refl : ∀ l : List ET, ET.sameL l l = true
  | [] => rfl
  | e :: r => by simp only [ET.sameL]; rw [ET.same_refl e, ET.sameL_refl r]; rfl
end
mutual
theorem ST.same_refl : ∀ e : ST, ST.same e e = true
  | .mk o n s l b e => by simp only [ST.same, beq_self_eq_true, Bool.true_and]; rw [ET.sameL_refl l, ST.sameL_refl b, ST.sameL_refl e]; rfl
theorem ST.sameL_refl : ∀ l : List ST, ST.sameL l l = true
  | [] => rfl
  | e :: r => by simp only [ST.sameL]; rw [ST.same_refl e, ST.sameL_refl r]; rfl
end
theorem beq_symm {α : Type} [BEq α] [LawfulBEq α] (a b : α) : (a == b) = (b == a) := by
  rw [Bool.eq_iff_iff, beq_iff_eq, beq_iff_eq]; exact ⟨Eq.symm, Eq.symm⟩
mutual
theorem ET.same_symm : ∀ a b : ET, ET.same a b = ET.same b a
  | .mk o n s l, .mk o' n' s' l' => by simp only [ET.same]; rw [beq_symm o o', beq_symm n n', beq_symm s.toList s'.toList, ET.sameL_symm l l']
theorem ET.sameL_symm : ∀ l r : List ET, ET.sameL l r = ET.sameL r l
  | [], [] => rfl
  | [], _ :: _ => rfl
  | _ :: _, [] => rfl
  | a :: l, b :: r => by simp only [ET.sameL]; rw [ET.same_symm a b, ET.sameL_symm l r]
end
mutual
theorem ST.same_symm : ∀ a b : ST, ST.same a b = ST.same b a
  | .mk o n s l b e, .mk o' n' s' l' b' e' => by simp only [ST.same]; rw [beq_symm o o', beq_symm n n', beq_symm s.toList s'.toList, ET.sameL_symm l l', ST.sameL_symm b b', ST.sameL_symm e e']
theorem ST.sameL_symm : ∀ l r : List ST, ST.sameL l r = ST.sameL r l
  | [], [] => rfl
  | [], _ :: _ => rfl
  | _ :: _, [] => rfl
  | a :: l, b :: r => by simp only [ST.sameL]; rw [ST.same_symm a b, ST.sameL_symm l r]
end
theorem allB_all (n : Nat) (p : Nat → Bool) : allB n p = true ↔ ∀ i, i < n → p i = true := by
  unfold allB; rw [List.all_eq_true]; exact ⟨fun h i hi => h i (List.mem_range.2 hi), fun h i hi => h i (List.mem_range.1 hi)⟩
theorem eqS_refl (l : List ByteArray) : eqS l l = true := by
  unfold eqS; rw [decide_eq_true rfl, Bool.true_and, allB_all]; intro i _; simp
theorem eqS_symm (l r : List ByteArray) : eqS l r = eqS r l := by
  unfold eqS
  rw [Bool.eq_iff_iff]
  simp only [Bool.and_eq_true, decide_eq_true_eq, allB_all]
  constructor
  · rintro ⟨h1, h2⟩; exact ⟨h1.symm, fun i hi => by rw [beq_symm]; exact h2 i (by omega)⟩
  · rintro ⟨h1, h2⟩; exact ⟨h1.symm, fun i hi => by rw [beq_symm]; exact h2 i (by omega)⟩
theorem FT.same_refl (a : FT) : FT.same a a = true := by unfold FT.same; rw [eqS_refl, ST.sameL_refl]; simp
theorem FT.same_symm (a b : FT) : FT.same a b = FT.same b a := by unfold FT.same; rw [beq_symm a.name.toList, eqS_symm, ST.sameL_symm]
theorem FT.sameL_refl (l : List FT) : FT.sameL l l = true := by
  induction l with
  | nil => rfl
  | cons a l ih => simp only [FT.sameL]; rw [FT.same_refl, ih]; rfl
theorem FT.sameL_symm (l : List FT) : ∀ r, FT.sameL l r = FT.sameL r l := by
  induction l with
  | nil => intro r; cases r <;> rfl
  | cons a l ih => intro r; cases r with
    | nil => rfl
    | cons b r => simp only [FT.sameL]; rw [FT.same_symm, ih]
theorem PT.same_refl (p : PT) : PT.same p p = true := by unfold PT.same; rw [FT.sameL_refl, ST.sameL_refl]; rfl
theorem PT.same_symm (p q : PT) : PT.same p q = PT.same q p := by unfold PT.same; rw [FT.sameL_symm, ST.sameL_symm]
theorem depthF_perm {l r : List (Bool × Int)} (h : l.Perm r) : depthF l = depthF r := by
  unfold depthF
  refine h.foldl_eq' ?_ 0
  intro x _ y _ z
  omega
theorem sizeF_go (l r : List (Bool × Int)) (h : l.length = r.length) : ∀ n : Int, l.foldl (fun n _ => wrap64 (n + 1)) n = r.foldl (fun n _ => wrap64 (n + 1)) n := by
  induction l generalizing r with
  | nil => intro n; cases r with | nil => rfl | cons _ _ => cases h
  | cons a l ih => intro n; cases r with
    | nil => cases h
    | cons b r => exact ih r (by simpa using h) _
theorem sizeF_len {l r : List (Bool × Int)} (h : l.length = r.length) : sizeF l = sizeF r := sizeF_go l r h 0
theorem ST.nodesL_flat (l : List ST) (d : Int) : ST.nodesL l d = l.flatMap fun s => ST.nodes s d := by
  induction l with
  | nil => rfl
  | cons a l ih => simp only [ST.nodesL, List.flatMap_cons]; rw [ih]
theorem swL_perm (l : List ST) (i k : Nat) (hi : i < l.length) (hk : k < l.length) : (swL l i k).Perm l := by
  unfold swL
  have e1 : l.getD k default = l[k] := by rw [List.getD_eq_getElem?_getD, List.getElem?_eq_getElem hk]; rfl
  have e2 : l.getD i default = l[i] := by rw [List.getD_eq_getElem?_getD, List.getElem?_eq_getElem hi]; rfl
  rw [e1, e2]
  exact List.set_set_perm hi hk
theorem sw_nodes (p : PT) (i k : Nat) (hi : i < p.main.length) (hk : k < p.main.length) : (PT.nodes ⟨p.funcs, swL p.main i k⟩).Perm p.nodes := by
  unfold PT.nodes
  refine List.Perm.append_left _ ?_
  rw [ST.nodesL_flat, ST.nodesL_flat]
  exact List.Perm.flatMap_right _ (swL_perm p.main i k hi hk)
theorem sw_depth (p : PT) (i k : Nat) (hi : i < p.main.length) (hk : k < p.main.length) : PT.depth ⟨p.funcs, swL p.main i k⟩ = p.depth := depthF_perm (sw_nodes p i k hi hk)
theorem sw_size (p : PT) (i k : Nat) (hi : i < p.main.length) (hk : k < p.main.length) : PT.size ⟨p.funcs, swL p.main i k⟩ = p.size := sizeF_len (sw_nodes p i k hi hk).length_eq
theorem sw_same (p : PT) (i k : Nat) (hi : i < p.main.length) (hk : k < p.main.length) : PT.same p ⟨p.funcs, swL p.main i k⟩ = ST.same (p.main.getD i default) (p.main.getD k default) := by
  unfold PT.same
  dsimp only
  rw [FT.sameL_refl, Bool.true_and, ST.sameL_eq, swL_length, decide_eq_true rfl, Bool.true_and]
  rw [Bool.eq_iff_iff, allB_all]
  constructor
  · intro h
    have := h k hk
    rw [swL_getD _ _ _ _ hi hk hk, if_pos rfl] at this
    rw [ST.same_symm]; exact this
  · intro h j hj
    rw [swL_getD _ _ _ _ hi hk hj]
    by_cases e1 : j = k
    · subst e1; rw [if_pos rfl, ST.same_symm]; exact h
    · rw [if_neg e1]
      by_cases e2 : j = i
      · subst e2; rw [if_pos rfl]; exact h
      · rw [if_neg e2]; exact ST.same_refl _
theorem one_same (a b : ST) : PT.same ⟨[], [a]⟩ ⟨[], [b]⟩ = ST.same a b := by simp [PT.same, FT.sameL, ST.sameL]
end Go.Proofs.YtplckmpamekloaaDoor
