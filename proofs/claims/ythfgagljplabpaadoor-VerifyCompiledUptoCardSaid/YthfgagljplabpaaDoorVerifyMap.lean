/- The map of depths, by what it holds at each place. -/
import Derived.Test.YthfgagljplabpaaDoorVerifyRep
import Derived.Maps.OwnSet
import Derived.Conc.SmallLaws
namespace Go.Proofs.YthfgagljplabpaaDoor.V
open Go.RowKit Go.Sort Go.Maps
set_option linter.unusedVariables false

def lit64 (n : Int) : DataW Unit := .lit (.int .i64 n)
/-- A map holds just these. -/
def MapIs (D : DataW Unit) (dep : Nat → Option Int) : Prop :=
  IsMap D ∧ ∀ k : Nat, Maps.has D (.int .i64 k) = (dep k).isSome ∧ D.atKey (.int .i64 k) (lit64 0) = lit64 ((dep k).getD 0)
theorem mapIs_empty : MapIs (.map []) (fun _ => none) := ⟨isMap_empty, fun k => ⟨rfl, rfl⟩⟩
theorem MapIs.put {D : DataW Unit} {dep : Nat → Option Int} (h : MapIs D dep) (p : Nat) (d : Int) : MapIs (D.put (.int .i64 p) (lit64 d)) (fun k => if k = p then some d else dep k) := by
  refine ⟨h.1.put _ _, fun k => ?_⟩
  dsimp only
  by_cases e : k = p
  · subst e
    rw [if_pos rfl]
    exact ⟨has_put_same h.1 (by simp [WideAt.IsKeyLit]) _, atKey_put_same h.1 (by simp [WideAt.IsKeyLit]) _ _⟩
  · rw [if_neg e]
    have hne : (Lit.int .i64 (k : Int)) ≠ .int .i64 (p : Int) := by
      intro h'
      injection h' with _ h'
      omega
    exact ⟨(has_put_other hne _).trans (h.2 k).1, (atKey_put_other hne _ _).trans (h.2 k).2⟩
theorem lawInt : Keyed Tryd.prog 3 := int_keyed Tryd.underlying3
theorem zeroInt (w : World) : (zeroValue 3).run Tryd.prog w = .ok (.int .i64 0) w := by kernel_rfl
/-- Block b holds these depths. -/
def Deps (w : World) (b : Nat) (n : Nat) (dep : Nat → Option Int) : Prop := ∃ D, w.ownsMap Tryd.prog 3 (plainElem Tryd.prog 3) b n D ∧ MapIs D dep
end Go.Proofs.YthfgagljplabpaaDoor.V
