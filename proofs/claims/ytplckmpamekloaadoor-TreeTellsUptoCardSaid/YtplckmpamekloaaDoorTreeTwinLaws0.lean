/- Sameness tells of everything that it is the same as itself (twins of lemmas of TreeTwinLaws, which wait for TreeOps). -/
import Derived.Test.YtplckmpamekloaaDoorTreeEqual
namespace Go.Proofs.YtplckmpamekloaaDoor
open Go.RowKit Go.Sort
set_option linter.unusedVariables false

mutual
theorem ET.same_refl : ∀ e : ET, ET.same e e = true
  | .mk o n s l => by simp only [ET.same, beq_self_eq_true, Bool.true_and]; exact ET.sameL_refl l
theorem ET.sameL_refl : ∀ l : List ET, ET.sameL l l = true
  | [] => rfl
  | e :: r => by simp only [ET.sameL]; rw [ET.same_refl e, ET.sameL_refl r]; rfl
end
mutual
theorem ST.same_refl : ∀ e : ST, ST.same e e = true
  | .mk o n s l b e => by simp only [ST.same, beq_self_eq_true, Bool.true_and]; rw [ET.sameL_refl l, ST.sameL_refl b, ST.sameL_refl e]; rfl
theorem ST.sameL_refl : ∀ l : List ST, ST.sameL l l = true
  | [] => rfl
  | e :: r => by simp only [ST.sameL]; rw [ST.same_refl e, ST.sameL_refl r]; rfl
end
theorem allB_all (n : Nat) (p : Nat → Bool) : allB n p = true ↔ ∀ i, i < n → p i = true := by
  unfold allB; rw [List.all_eq_true]; exact ⟨fun h i hi => h i (List.mem_range.2 hi), fun h i hi => h i (List.mem_range.1 hi)⟩
theorem eqS_refl (l : List ByteArray) : eqS l l = true := by
  unfold eqS; rw [decide_eq_true rfl, Bool.true_and, allB_all]; intro i _; simp
theorem FT.same_refl (a : FT) : FT.same a a = true := by unfold FT.same; rw [eqS_refl, ST.sameL_refl]; simp
theorem FT.sameL_refl (l : List FT) : FT.sameL l l = true := by
  induction l with
  | nil => rfl
  | cons a l ih => simp only [FT.sameL]; rw [FT.same_refl, ih]; rfl
theorem PT.same_refl (p : PT) : PT.same p p = true := by unfold PT.same; rw [FT.sameL_refl, ST.sameL_refl]; rfl
end Go.Proofs.YtplckmpamekloaaDoor
