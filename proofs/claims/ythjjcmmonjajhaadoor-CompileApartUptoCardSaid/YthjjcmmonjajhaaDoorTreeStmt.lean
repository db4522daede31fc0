/- tree.stmt: a statement but for its parts. -/
import Derived.Test.YthjjcmmonjajhaaDoorTreeExpr
namespace Go.Proofs.YthjjcmmonjajhaaDoor
open Go.RowKit Go.Sort
set_option linter.unusedVariables false

theorem stmt_range (i : Nat) (hi : i < 10) : -100 ≤ (stmtRow i).2.2.2.1 ∧ (stmtRow i).2.2.2.1 ≤ 100 := by
  have key : ∀ i : Fin 10, -100 ≤ (stmtRow i.val).2.2.2.1 ∧ (stmtRow i.val).2.2.2.1 ≤ 100 := by decide +kernel
  exact key ⟨i, hi⟩
theorem or_cases (x : Bool) (k : Nat) : (x = true ∧ (x || decide (k = 0)) = true) ∨ (x = false ∧ k = 0 ∧ (x || decide (k = 0)) = true) ∨ (x = false ∧ ((k : Int) == 0) = false ∧ (x || decide (k = 0)) = false) := by
  cases x
  · by_cases h : k = 0
    · subst h; simp
    · right; right; refine ⟨rfl, ?_, ?_⟩ <;> simp <;> omega
  · simp

set_option maxHeartbeats 8000000 in
set_option maxRecDepth 1000000 in
theorem stmt_in (i : Nat) (h1 : 1 ≤ i) (h2 : i < 10) (n : Int) (s : ByteArray) (a a1 a2 : Option Addr) (len cap lb cb le ce : Nat) (f : Bool) (hf : stmtFits i s n len = f)
    (q1 q2 : Bool) (hq1 : ((stmtRow i).2.2.2.2.1 || decide (lb = 0)) = q1) (hq2 : ((stmtRow i).2.2.2.2.2 || decide (le = 0)) = q2) (w : World) (ht : Tab w) :
    Calls Tryd.prog 60 #[.agg #[.int .i64 i, .string s, .int .i64 n, .slice a len cap, .slice a1 lb cb, .slice a2 le ce]] w fun e w' => e = .returned (.bool (f && (q1 && q2))) ∧ Below w.heap.size w w' := by
  have HB := hb_start w
  obtain ⟨p0, p1⟩ := stmt_range i h2
  obtain ⟨c0, c1, c2, c3, c4, c5⟩ := stmt_cells ht.2 i h2
  unfold stmtFits at hf
  generalize (stmtRow i).1 = x0 at hf c0
  generalize (stmtRow i).2.1 = x1 at hf c1
  generalize (stmtRow i).2.2.1 = x2 at hf c2
  generalize (stmtRow i).2.2.2.1 = x3 at hf c3 p0 p1
  generalize (stmtRow i).2.2.2.2.1 = x4 at hq1 c4
  generalize (stmtRow i).2.2.2.2.2 = x5 at hq2 c5
  have hz : 2 < w.heap.size := lt_of_cell c0
  have HF := Lib.hid hf
  have HP := Lib.hid (And.intro p0 p1)
  clear hf p0 p1 ht
  have i1 : ¬ (i : Int) < 1 := by omega
  have i2 : (i : Int) < 10 := by omega
  have r1 := or_cases x4 lb
  have r2 := or_cases x5 le
  rw [hq1] at r1
  rw [hq2] at r2
  clear hq1 hq2
  cases f
  all_goals
    rcases r1 with ⟨rfl, rfl⟩ | ⟨rfl, rfl, rfl⟩ | ⟨rfl, t1, rfl⟩
    all_goals
      rcases r2 with ⟨rfl, rfl⟩ | ⟨rfl, rfl, rfl⟩ | ⟨rfl, t2, rfl⟩
      all_goals
        go_enter Tryd.func60, Tryd.ntmps60
        go_wp2_with (go_at_call 69; refine (fits_r _ _ _ _ _ _ _ _ _ HP.out.1 HP.out.2 _ HF.out _).mono ?_; rintro e w' ⟨rfl, hb⟩; have HB3 : Hid (Below w.heap.size w w') := hb_step (by repeat (first | exact HB | refine hb_drew ?_ | refine hb_alloc ?_ _)) hb; have k4 := (hb.cell (p := ⟨w.heap.size + 1, 4, none⟩) (by simp)).trans (show _ = some (Value.bool _) by simp; rfl); have k5 := (hb.cell (p := ⟨w.heap.size + 1, 5, none⟩) (by simp)).trans (show _ = some (Value.bool _) by simp; rfl); have k6 := (hb.cell (p := ⟨w.heap.size, 4, none⟩) (by simp; omega)).trans (show _ = some (Value.slice a1 _ cb) by simp; rfl); have k7 := (hb.cell (p := ⟨w.heap.size, 5, none⟩) (by simp; omega)).trans (show _ = some (Value.slice a2 _ ce) by simp; rfl); clear hb)
        go_ret
        exact ⟨rfl, HB3.out⟩

set_option maxHeartbeats 4000000 in
set_option maxRecDepth 1000000 in
theorem stmt_out (o : Int) (h : o < 1 ∨ (1 ≤ o ∧ 10 ≤ o)) (n : Int) (s : ByteArray) (a a1 a2 : Option Addr) (len cap lb cb le ce : Nat) (w : World) :
    Calls Tryd.prog 60 #[.agg #[.int .i64 o, .string s, .int .i64 n, .slice a len cap, .slice a1 lb cb, .slice a2 le ce]] w fun e w' => e = .returned (.bool false) ∧ Below w.heap.size w w' := by
  have HB := hb_start w
  rcases h with h | ⟨h, h2⟩
  rotate_left 1
  have h3 : ¬ o < 1 := by omega
  rotate_left 1
  all_goals
    go_enter Tryd.func60, Tryd.ntmps60
    go_wp2
    go_ret
    exact ⟨rfl, (hb_alloc HB _).out⟩
/-- tree.stmt, whatever the statement. -/
theorem stmt_r (o n : Int) (s : ByteArray) (a a1 a2 : Option Addr) (len cap lb cb le ce : Nat) (b : Bool) (hb : stmtB o n s len lb le = b) (w : World) (ht : Tab w) :
    Calls Tryd.prog 60 #[.agg #[.int .i64 o, .string s, .int .i64 n, .slice a len cap, .slice a1 lb cb, .slice a2 le ce]] w fun e w' => e = .returned (.bool b) ∧ Below w.heap.size w w' := by
  unfold stmtB at hb
  by_cases h : 1 ≤ o ∧ o < 10
  · rw [decide_eq_true h, Bool.true_and] at hb
    obtain ⟨i, rfl⟩ : ∃ i : Nat, o = (i : Int) := ⟨o.toNat, by omega⟩
    subst hb
    exact stmt_in i (by omega) (by omega) n s a a1 a2 len cap lb cb le ce _ rfl _ _ rfl rfl w ht
  · rw [decide_eq_false h] at hb
    subst hb
    exact stmt_out o (by omega) n s a a1 a2 len cap lb cb le ce w
end Go.Proofs.YthjjcmmonjajhaaDoor
