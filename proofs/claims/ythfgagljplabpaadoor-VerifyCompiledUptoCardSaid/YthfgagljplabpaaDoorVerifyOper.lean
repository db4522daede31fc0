/- verify's operands: are an instruction's right? -/
import Derived.Test.YthfgagljplabpaaDoorVerifyReach
import Derived.Deep.QuietTactic
import Derived.BigQuiet
import Derived.WalkSmall
namespace Go.Proofs.YthfgagljplabpaaDoor.V
open Go.RowKit Go.Sort Go.Maps Go.Conc
set_option linter.unusedVariables false

theorem in_q (n a b : Int) (r : Bool) (hr : inB n a b = r) (w : World) :
    Calls Tryd.prog 15 #[.int .i64 n, .int .i64 a, .int .i64 b] w fun e w' => e = .returned (.bool r) ∧ w' = w :=
  (in_r n a b r hr w).mono fun _ _ ⟨h1, h2⟩ => ⟨h1, h2.symm⟩

set_option maxHeartbeats 4000000 in
set_option maxRecDepth 1000000 in
theorem operands_r (w0 w : World) (B bm bc : Nat) (fs : List VF) (f : VF) (fv lv : Value) (st : VS) (h : Looks w0 w B bm bc fs f fv lv st) (i : VI) (b : Bool) (hb : operandsB fs.length f i = b) :
    Calls Tryd.prog 38 #[.pointer (some ⟨B, 0, none⟩), .agg #[.int .i64 i.op, .int .i64 i.a, .int .i64 i.n]] w fun e w' => e = .returned (.bool b) ∧ Below w.heap.size w w' := by
  obtain ⟨op, x, n⟩ := i
  obtain ⟨c0, c1, c2, c3, c4, c5, c6, c7⟩ := h.cells
  obtain ⟨a, cap, rfl⟩ := h.rfs.shape
  have HT := Lib.hid h.tab
  have hlt := lt_of_heap h.box
  clear h c1 c2 c5 c6 c7
  unfold operandsB at hb
  dsimp only at hb ⊢
  by_cases h2 : op = 2
  · subst h2
    rw [if_pos (.inl rfl)] at hb
    have H := Lib.hid hb
    clear hb
    go_enter Tryd.func38, Tryd.ntmps38
    go_wp2
    go_quiet ((go_at_call 15; exact Calls.quiet_of_same (in_q _ _ _ _ H.out _)))
    go_wp2
    go_ret
    exact ⟨rfl, below_drewN ((Below.refl _ _).alloc (Nat.le_refl _) _) _⟩
  by_cases h3 : op = 3
  · subst h3
    rw [if_pos (.inr rfl)] at hb
    have H := Lib.hid hb
    clear hb
    go_enter Tryd.func38, Tryd.ntmps38
    go_wp2
    go_quiet ((go_at_call 15; exact Calls.quiet_of_same (in_q _ _ _ _ H.out _)))
    go_wp2
    go_ret
    exact ⟨rfl, below_drewN ((Below.refl _ _).alloc (Nat.le_refl _) _) _⟩
  by_cases h21 : op = 21
  · subst h21
    rw [if_neg (by decide), if_pos rfl] at hb
    obtain ⟨q, hq⟩ : ∃ q, inB x 0 f.vars = q := ⟨_, rfl⟩
    rw [hq] at hb
    have H := Lib.hid hq
    clear hq
    cases q with
    | false =>
      subst hb
      simp only [Bool.false_and]
      go_enter Tryd.func38, Tryd.ntmps38
      go_wp2
      go_quiet ((go_at_call 15; exact Calls.quiet_of_same (in_q _ _ _ _ H.out _)))
      go_wp2
      go_ret
      exact ⟨rfl, below_drewN ((Below.refl _ _).alloc (Nat.le_refl _) _) _⟩
    | true =>
      by_cases n0 : n = 0
      · subst n0
        subst hb
        simp only [Bool.true_and, decide_true, Bool.true_or]
        go_enter Tryd.func38, Tryd.ntmps38
        go_wp2
        go_quiet ((go_at_call 15; exact Calls.quiet_of_same (in_q _ _ _ _ H.out _)))
        go_wp2
        go_ret
        exact ⟨rfl, below_drewN ((Below.refl _ _).alloc (Nat.le_refl _) _) _⟩
      · have n0' : (n == 0) = false := by simpa using n0
        rw [decide_eq_false n0] at hb
        clear n0
        by_cases n1 : n = 1
        · subst n1
          subst hb
          simp only [Bool.true_and, decide_true, Bool.false_or]
          go_enter Tryd.func38, Tryd.ntmps38
          go_wp2
          go_quiet ((go_at_call 15; exact Calls.quiet_of_same (in_q _ _ _ _ H.out _)))
          go_wp2
          go_ret
          exact ⟨rfl, below_drewN ((Below.refl _ _).alloc (Nat.le_refl _) _) _⟩
        · have n1' : (n == 1) = false := by simpa using n1
          rw [decide_eq_false n1] at hb
          clear n1
          subst hb
          simp only [Bool.true_and, Bool.false_or]
          go_enter Tryd.func38, Tryd.ntmps38
          go_wp2
          go_quiet ((go_at_call 15; exact Calls.quiet_of_same (in_q _ _ _ _ H.out _)))
          go_wp2
          go_ret
          exact ⟨rfl, below_drewN ((Below.refl _ _).alloc (Nat.le_refl _) _) _⟩
  by_cases h23 : op = 23
  · subst h23
    rw [if_neg (by decide), if_neg (by decide), if_pos (.inl rfl)] at hb
    have H := Lib.hid hb
    clear hb
    go_enter Tryd.func38, Tryd.ntmps38
    go_wp2
    go_quiet ((go_at_call 15; exact Calls.quiet_of_same (in_q _ _ _ _ H.out _)))
    go_wp2
    go_ret
    exact ⟨rfl, below_drewN ((Below.refl _ _).alloc (Nat.le_refl _) _) _⟩
  by_cases h24 : op = 24
  · subst h24
    rw [if_neg (by decide), if_neg (by decide), if_pos (.inr rfl)] at hb
    have H := Lib.hid hb
    clear hb
    go_enter Tryd.func38, Tryd.ntmps38
    go_wp2
    go_quiet ((go_at_call 15; exact Calls.quiet_of_same (in_q _ _ _ _ H.out _)))
    go_wp2
    go_ret
    exact ⟨rfl, below_drewN ((Below.refl _ _).alloc (Nat.le_refl _) _) _⟩
  by_cases h22 : op = 22
  · subst h22
    rw [if_neg (by decide), if_neg (by decide), if_neg (by decide), if_pos rfl] at hb
    obtain ⟨q, hq⟩ : ∃ q, inB x 0 f.arrays = q := ⟨_, rfl⟩
    rw [hq] at hb
    have H := Lib.hid hq
    clear hq
    cases q with
    | false =>
      subst hb
      simp only [Bool.false_and]
      go_enter Tryd.func38, Tryd.ntmps38
      go_wp2
      go_quiet ((go_at_call 15; exact Calls.quiet_of_same (in_q _ _ _ _ H.out _)))
      go_wp2
      go_ret
      exact ⟨rfl, below_drewN ((Below.refl _ _).alloc (Nat.le_refl _) _) _⟩
    | true =>
      by_cases n0 : 1 ≤ n
      · by_cases n1 : n ≤ 4096
        · rw [decide_eq_true n0, decide_eq_true n1] at hb
          subst hb
          simp only [Bool.true_and]
          go_enter Tryd.func38, Tryd.ntmps38
          go_wp2
          go_quiet ((go_at_call 15; exact Calls.quiet_of_same (in_q _ _ _ _ H.out _)))
          go_wp2
          go_ret
          exact ⟨rfl, below_drewN ((Below.refl _ _).alloc (Nat.le_refl _) _) _⟩
        · rw [decide_eq_true n0, decide_eq_false n1] at hb
          have n1' : decide (n ≤ 4096) = false := decide_eq_false n1
          clear n1
          subst hb
          simp only [Bool.true_and]
          go_enter Tryd.func38, Tryd.ntmps38
          go_wp2
          go_quiet ((go_at_call 15; exact Calls.quiet_of_same (in_q _ _ _ _ H.out _)))
          go_wp2
          go_ret
          exact ⟨rfl, below_drewN ((Below.refl _ _).alloc (Nat.le_refl _) _) _⟩
      · rw [decide_eq_false n0] at hb
        have n0' : decide (1 ≤ n) = false := decide_eq_false n0
        clear n0
        subst hb
        simp only [Bool.true_and, Bool.false_and]
        go_enter Tryd.func38, Tryd.ntmps38
        go_wp2
        go_quiet ((go_at_call 15; exact Calls.quiet_of_same (in_q _ _ _ _ H.out _)))
        go_wp2
        go_ret
        exact ⟨rfl, below_drewN ((Below.refl _ _).alloc (Nat.le_refl _) _) _⟩
  by_cases h17 : op = 17
  · subst h17
    rw [if_neg (by decide), if_neg (by decide), if_neg (by decide), if_neg (by decide), if_pos rfl] at hb
    have H := Lib.hid hb
    clear hb
    go_enter Tryd.func38, Tryd.ntmps38
    go_wp2
    go_quiet ((go_at_call 15; exact Calls.quiet_of_same (in_q _ _ _ _ H.out _)))
    go_wp2
    go_ret
    exact ⟨rfl, below_drewN ((Below.refl _ _).alloc (Nat.le_refl _) _) _⟩
  rw [if_neg (by rintro (h | h) <;> contradiction), if_neg h21, if_neg (by rintro (h | h) <;> contradiction), if_neg h22, if_neg h17] at hb
  have H := Lib.hid hb
  have k2 : (op == 2) = false := by simpa using h2
  have k3 : (op == 3) = false := by simpa using h3
  have k21 : (op == 21) = false := by simpa using h21
  have k23 : (op == 23) = false := by simpa using h23
  have k24 : (op == 24) = false := by simpa using h24
  have k22 : (op == 22) = false := by simpa using h22
  have k17 : (op == 17) = false := by simpa using h17
  clear hb h2 h3 h21 h23 h24 h22 h17
  go_enter Tryd.func38, Tryd.ntmps38
  go_wp2_with (go_at_call 10; refine (known_r _ _ H.out _).mono ?_; rintro e w' ⟨rfl, rfl⟩)
  go_ret
  exact ⟨rfl, (Below.refl _ _).alloc (Nat.le_refl _) _⟩
end Go.Proofs.YthfgagljplabpaaDoor.V
