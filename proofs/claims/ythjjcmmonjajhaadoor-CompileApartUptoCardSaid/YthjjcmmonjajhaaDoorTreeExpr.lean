/- tree.expr, tree.stmt: an expression, a statement, but for its parts. -/
import Derived.Test.YthjjcmmonjajhaaDoorTreePure
import Derived.StillTailTactics
import Derived.Deep.QuietTactic
import Derived.BigQuiet
namespace Go.Proofs.YthjjcmmonjajhaaDoor
open Go.RowKit Go.Sort
set_option linter.unusedVariables false

theorem below_drewN {B : Nat} {a w : World} (h : Below B a w) (n : Nat) : Below B a (w.drewN n) := h.trans ⟨rfl, rfl, rfl, Nat.le_refl _, fun _ _ => rfl⟩
theorem expr_range (i : Nat) (hi : i < 17) : -100 ≤ (exprRow i).2.2.2.1 ∧ (exprRow i).2.2.2.1 ≤ 100 := by
  have key : ∀ i : Fin 17, -100 ≤ (exprRow i.val).2.2.2.1 ∧ (exprRow i.val).2.2.2.1 ≤ 100 := by decide +kernel
  exact key ⟨i, hi⟩

set_option maxHeartbeats 4000000 in
set_option maxRecDepth 1000000 in
theorem expr_in (i : Nat) (h1 : 1 ≤ i) (h2 : i < 17) (n : Int) (s : ByteArray) (a : Option Addr) (len cap : Nat) (b : Bool) (hb : exprFits i s n len = b) (w : World) (ht : Tab w) :
    Calls Tryd.prog 70 #[.agg #[.int .i64 i, .int .i64 n, .string s, .slice a len cap]] w fun e w' => e = .returned (.bool b) ∧ Below w.heap.size w w' := by
  have HB := hb_start w
  obtain ⟨p0, p1⟩ := expr_range i h2
  obtain ⟨c0, c1, c2, c3, c4, c5⟩ := expr_cells ht.1 i h2
  unfold exprFits at hb
  generalize (exprRow i).1 = x0 at hb c0
  generalize (exprRow i).2.1 = x1 at hb c1
  generalize (exprRow i).2.2.1 = x2 at hb c2
  generalize (exprRow i).2.2.2.1 = x3 at hb c3 p0 p1
  generalize (exprRow i).2.2.2.2.1 = x4 at c4
  generalize (exprRow i).2.2.2.2.2 = x5 at c5
  have hz : 4 < w.heap.size := lt_of_cell c0
  have HF := Lib.hid hb
  have HP := Lib.hid (And.intro p0 p1)
  clear hb p0 p1 ht
  have i1 : (1 : Int) ≤ (i : Int) := by omega
  have i2 : (i : Int) < 17 := by omega
  go_enter Tryd.func70, Tryd.ntmps70
  go_wp2
  obtain ⟨W1, hW1⟩ : ∃ W1, W1 = w.alloc (Obj.cells #[Value.int IntKind.i64 (i : Int), Value.int IntKind.i64 n, Value.string s, Value.slice a len cap] 51) := ⟨_, rfl⟩
  obtain ⟨bx, hbx⟩ : ∃ bx, bx = w.heap.size := ⟨_, rfl⟩
  rw [← hW1, ← hbx]
  have d0 : W1.cell? ⟨bx, 0, none⟩ = some (.int .i64 (i : Int)) := by rw [hW1, hbx]; simp
  have d1 : W1.cell? ⟨bx, 1, none⟩ = some (.int .i64 n) := by rw [hW1, hbx]; simp
  have d2 : W1.cell? ⟨bx, 2, none⟩ = some (.string s) := by rw [hW1, hbx]; simp
  have d3 : W1.cell? ⟨bx, 3, none⟩ = some (.slice a len cap) := by rw [hW1, hbx]; simp
  have hb1 : Below w.heap.size w W1 := by rw [hW1]; exact (Below.refl _ _).alloc (Nat.le_refl _) _
  have HB1 := Lib.hid hb1
  rw [← hb1.cell (p := ⟨4, i * 6, none⟩) hz] at c0
  rw [← hb1.cell (p := ⟨4, i * 6 + 1, none⟩) hz] at c1
  rw [← hb1.cell (p := ⟨4, i * 6 + 2, none⟩) hz] at c2
  rw [← hb1.cell (p := ⟨4, i * 6 + 3, none⟩) hz] at c3
  rw [← hb1.cell (p := ⟨4, i * 6 + 4, none⟩) hz] at c4
  rw [← hb1.cell (p := ⟨4, i * 6 + 5, none⟩) hz] at c5
  clear hW1 hbx HB hb1
  have HB2 : Hid (Below w.heap.size w W1.drew) := HB1.out.drew
  go_still_tail 20, (by kernel_rfl)
  change wpList _ _ _ _ _ W1.drew
  clear HB1 c0 c1 c2 c3 c4 c5 d0 d1 d2 d3
  generalize W1.drew = w2 at HB2
  go_wp2_with (go_at_call 69; refine (fits_r _ _ _ _ _ _ _ _ _ HP.out.1 HP.out.2 _ HF.out _).mono ?_; rintro e w' ⟨rfl, hb⟩; have HB3 : Hid (Below w.heap.size w w') := hb_step HB2 hb; clear hb)
  go_ret
  exact ⟨rfl, HB3.out⟩

set_option maxHeartbeats 4000000 in
set_option maxRecDepth 1000000 in
theorem expr_out (o : Int) (h : o < 1 ∨ (1 ≤ o ∧ 17 ≤ o)) (n : Int) (s : ByteArray) (v : Value) (hv : ∃ a len cap, v = .slice a len cap) (w : World) :
    Calls Tryd.prog 70 #[.agg #[.int .i64 o, .int .i64 n, .string s, v]] w fun e w' => e = .returned (.bool false) ∧ Below w.heap.size w w' := by
  obtain ⟨a, len, cap, rfl⟩ := hv
  rcases h with h | ⟨h, h2⟩
  have h3 : decide (1 ≤ o) = false := decide_eq_false (by omega)
  rotate_left 1
  have h3 : decide (o < 17) = false := decide_eq_false (by omega)
  rotate_left 1
  all_goals
    go_enter Tryd.func70, Tryd.ntmps70
    go_wp2
    go_quiet (fail)
    go_wp2
    go_ret
    exact ⟨rfl, below_drewN ((Below.refl _ _).alloc (Nat.le_refl _) _) _⟩
/-- tree.expr, whatever the expression. -/
theorem expr_r (o n : Int) (s : ByteArray) (v : Value) (k : Nat) (hv : ∃ a cap, v = .slice a k cap) (b : Bool) (hb : exprB o n s k = b) (w : World) (ht : Tab w) :
    Calls Tryd.prog 70 #[.agg #[.int .i64 o, .int .i64 n, .string s, v]] w fun e w' => e = .returned (.bool b) ∧ Below w.heap.size w w' := by
  obtain ⟨a, cap, rfl⟩ := hv
  unfold exprB at hb
  by_cases h : 1 ≤ o ∧ o < 17
  · rw [decide_eq_true h, Bool.true_and] at hb
    obtain ⟨i, rfl⟩ : ∃ i : Nat, o = (i : Int) := ⟨o.toNat, by omega⟩
    exact expr_in i (by omega) (by omega) n s a k cap b (by simpa using hb) w ht
  · rw [decide_eq_false h] at hb
    subst hb
    exact expr_out o (by omega) n s _ ⟨_, _, _, rfl⟩ w

end Go.Proofs.YthjjcmmonjajhaaDoor
