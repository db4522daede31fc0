/- verify's right, where a function's numbers are wrong. -/
import Derived.Test.YthfgagljplabpaaDoorVerifyPlace
import Derived.RegionTactic
import Derived.BigRegion
namespace Go.Proofs.YthfgagljplabpaaDoor.V
open Go.RowKit Go.Sort Go.Maps Go.Conc
set_option linter.unusedVariables false

theorem inBI {n a b : Int} {r : Bool} (h : inB n a b = r) : Hid (inB n a b = r) := h
set_option maxHeartbeats 4000000 in
set_option maxRecDepth 1000000 in
theorem right_head (v : Value) (f : VF) (lv : Value) (w : World) (hh : headV f = false) :
    Calls Tryd.prog 14 #[v, .agg #[.string f.name, .int .i64 f.params, .int .i64 f.vars, .int .i64 f.arrays, lv]] w fun e w' => e = .returned (.bool false) ∧ Below w.heap.size w w' := by
  obtain ⟨s, pn, vn, an, l⟩ := f
  unfold headV at hh
  dsimp only at hh ⊢
  obtain ⟨q1, h1⟩ : ∃ q, inB pn 0 9 = q := ⟨_, rfl⟩
  obtain ⟨q3, h3⟩ : ∃ q, inB vn 0 65 = q := ⟨_, rfl⟩
  obtain ⟨q4, h4⟩ : ∃ q, inB an 0 65 = q := ⟨_, rfl⟩
  rw [h1, h3, h4] at hh
  have H1 := Lib.hid h1
  have H3 := Lib.hid h3
  have H4 := Lib.hid h4
  clear h1 h3 h4
  by_cases h2 : pn ≤ vn
  · rw [decide_eq_true h2] at hh
    cases q1 <;> cases q3 <;> cases q4 <;> first | (exact absurd hh (by decide)) | skip
    all_goals
      clear hh
      go_enter Tryd.func14, Tryd.ntmps14
      go_wp2_with (first | (go_at_call 15; (with_reducible refine (in_r pn 0 9 _ H1.out _).mono ?_); rintro e w' ⟨rfl, rfl⟩) | (go_at_call 15; (with_reducible refine (in_r vn 0 65 _ H3.out _).mono ?_); rintro e w' ⟨rfl, rfl⟩) | (go_at_call 15; (with_reducible refine (in_r an 0 65 _ H4.out _).mono ?_); rintro e w' ⟨rfl, rfl⟩))
      go_ret
      exact ⟨rfl, (Below.refl _ _).alloc (Nat.le_refl _) _⟩
  · have h2' : vn < pn := by omega
    clear hh h2
    cases q1 <;> cases q3 <;> cases q4
    all_goals
      go_enter Tryd.func14, Tryd.ntmps14
      go_wp2_with (first | (go_at_call 15; (with_reducible refine (in_r pn 0 9 _ H1.out _).mono ?_); rintro e w' ⟨rfl, rfl⟩) | (go_at_call 15; (with_reducible refine (in_r vn 0 65 _ H3.out _).mono ?_); rintro e w' ⟨rfl, rfl⟩) | (go_at_call 15; (with_reducible refine (in_r an 0 65 _ H4.out _).mono ?_); rintro e w' ⟨rfl, rfl⟩))
      go_ret
      exact ⟨rfl, (Below.refl _ _).alloc (Nat.le_refl _) _⟩
end Go.Proofs.YthfgagljplabpaaDoor.V
