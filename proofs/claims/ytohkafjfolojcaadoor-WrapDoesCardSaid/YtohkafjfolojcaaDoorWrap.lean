/- wrap.Text computes 'itoa'; what evenhandlaw01 shows in any case is so. -/
import Derived.Test.YtohkafjfolojcaaDoorParse
import Derived.Test.YtohkafjfolojcaaDoorShelf
import Derived.Lib.ItoaLen
import Derived.Lib.SmallJoins
import Derived.Lib.AppendIntMem
namespace Go.Proofs.YtohkafjfolojcaaDoor
open Go.RowKit Go.Sort

/-- The library's table of powers of ten, as it was laid. -/
def Tab (w : World) : Prop := Lib.TabIs Tryd.prog w "internal/strconv.uint64pow10" .u64 Lib.pow10Tab
theorem gPow : Tryd.prog.globalNamed "internal/strconv.uint64pow10" = some 0 := by kernel_rfl
theorem Tab.below {w w' : World} (h : Tab w) (hb : Below w.heap.size w w') : Tab w' := Joins.tab_stays gPow h hb (Nat.le_refl _)

theorem below_grow {w : World} (k : Nat) (os : Array Obj) : Below w.heap.size w (grow (w.drewN k) os) := Lib.below_grow _ _ (Nat.le_refl _) _ _

set_option maxHeartbeats 1000000 in
set_option maxRecDepth 1000000 in
theorem text_any (n : Int) (h0 : -9223372036854775808 ≤ n) (h1 : n ≤ 9223372036854775807) (w : World) (ht : Tab w) :
    Calls Tryd.prog 26 #[.int .i64 n] w fun e w' => e = .returned (.string ⟨(Lib.itoa n).toArray⟩) ∧ Below w.heap.size w w' := by
  have HT := Lib.hid ht
  clear ht
  go_enter Tryd.func26, Tryd.ntmps26
  go_wp2_with (go_at_call 38; refine (Tryd.strconv_FormatInt_10 n h0 h1 _ HT.out).mono ?_; rintro e w' ⟨rfl, k, os, rfl⟩)
  go_ret
  exact ⟨rfl, below_grow _ _⟩

theorem parse_of (s : ByteArray) (n : Int) (b : Bool) (h : parseN s = (n, b)) (w : World) (hs : s.size ≤ 9223372036854775807) :
    Calls Tryd.prog 27 #[.string s] w fun e w' => e = .returned (.tuple #[.int .i64 n, .bool b]) ∧ Below w.heap.size w w' := by
  have := parse_any s w hs
  rw [h] at this
  exact this

/-! ### The operations -/
section
variable (a b : Int) (w : World)
theorem flag_any (x : Bool) : Calls Tryd.prog 37 #[.bool x] w fun e w' => e = .returned (.int .i64 (flagI x)) ∧ w = w' := by
  cases x
  all_goals
    go_enter Tryd.func37, Tryd.ntmps37
    go_wp2
    go_ret
    exact ⟨rfl, rfl⟩
theorem add_any : Calls Tryd.prog 17 #[.int .i64 a, .int .i64 b] w fun e w' => e = .returned (.int .i64 (wAdd a b)) ∧ w = w' := by
  go_enter Tryd.func17, Tryd.ntmps17
  go_wp2
  go_ret
  exact ⟨rfl, rfl⟩
theorem sub_any : Calls Tryd.prog 18 #[.int .i64 a, .int .i64 b] w fun e w' => e = .returned (.int .i64 (wSub a b)) ∧ w = w' := by
  go_enter Tryd.func18, Tryd.ntmps18
  go_wp2
  go_ret
  exact ⟨rfl, rfl⟩
theorem mul_any : Calls Tryd.prog 19 #[.int .i64 a, .int .i64 b] w fun e w' => e = .returned (.int .i64 (wMul a b)) ∧ w = w' := by
  go_enter Tryd.func19, Tryd.ntmps19
  go_wp2
  go_ret
  exact ⟨rfl, rfl⟩
theorem neg_any : Calls Tryd.prog 15 #[.int .i64 a] w fun e w' => e = .returned (.int .i64 (wNeg a)) ∧ w = w' := by
  go_enter Tryd.func15, Tryd.ntmps15
  go_wp2
  go_ret
  exact ⟨rfl, rfl⟩
theorem and_any : Calls Tryd.prog 24 #[.int .i64 a, .int .i64 b] w fun e w' => e = .returned (.int .i64 (wAnd a b)) ∧ w = w' := by
  go_enter Tryd.func24, Tryd.ntmps24
  go_wp2
  go_ret
  exact ⟨rfl, rfl⟩
theorem or_any : Calls Tryd.prog 25 #[.int .i64 a, .int .i64 b] w fun e w' => e = .returned (.int .i64 (wOr a b)) ∧ w = w' := by
  go_enter Tryd.func25, Tryd.ntmps25
  go_wp2
  go_ret
  exact ⟨rfl, rfl⟩
theorem not_any : Calls Tryd.prog 16 #[.int .i64 a] w fun e w' => e = .returned (.int .i64 (wNot a)) ∧ w = w' := by
  go_enter Tryd.func16, Tryd.ntmps16
  go_wp2_with (go_at_call 37; refine (flag_any _ _).mono ?_; rintro e w' ⟨rfl, rfl⟩)
  go_ret
  exact ⟨rfl, rfl⟩
theorem less_any : Calls Tryd.prog 22 #[.int .i64 a, .int .i64 b] w fun e w' => e = .returned (.int .i64 (wLess a b)) ∧ w = w' := by
  go_enter Tryd.func22, Tryd.ntmps22
  go_wp2_with (go_at_call 37; refine (flag_any _ _).mono ?_; rintro e w' ⟨rfl, rfl⟩)
  go_ret
  exact ⟨rfl, rfl⟩
theorem same_any : Calls Tryd.prog 23 #[.int .i64 a, .int .i64 b] w fun e w' => e = .returned (.int .i64 (wSame a b)) ∧ w = w' := by
  go_enter Tryd.func23, Tryd.ntmps23
  go_wp2_with (go_at_call 37; refine (flag_any _ _).mono ?_; rintro e w' ⟨rfl, rfl⟩)
  go_ret
  exact ⟨rfl, rfl⟩
theorem div_any : Calls Tryd.prog 20 #[.int .i64 a, .int .i64 b] w fun e w' => e = .returned (.tuple #[.int .i64 (wDiv a b).1, .bool (wDiv a b).2]) ∧ w = w' := by
  by_cases h : b = 0
  · subst h
    go_enter Tryd.func20, Tryd.ntmps20
    go_wp2
    go_ret2
    exact ⟨rfl, rfl⟩
  · have e : wDiv a b = (wrap64 (Int.tdiv a b), true) := if_neg h
    have h' : (b == 0) = false := by simpa using h
    rw [e]
    clear e
    go_enter Tryd.func20, Tryd.ntmps20
    go_wp2
    go_ret2
    exact ⟨rfl, rfl⟩
theorem mod_any : Calls Tryd.prog 21 #[.int .i64 a, .int .i64 b] w fun e w' => e = .returned (.tuple #[.int .i64 (wMod a b).1, .bool (wMod a b).2]) ∧ w = w' := by
  by_cases h : b = 0
  · subst h
    go_enter Tryd.func21, Tryd.ntmps21
    go_wp2
    go_ret2
    exact ⟨rfl, rfl⟩
  · have e : wMod a b = (Int.tmod a b, true) := if_neg h
    have h' : (b == 0) = false := by simpa using h
    rw [e]
    clear e
    go_enter Tryd.func21, Tryd.ntmps21
    go_wp2
    go_ret2
    exact ⟨rfl, rfl⟩
end
set_option maxHeartbeats 4000000 in
set_option maxRecDepth 1000000 in
theorem do_any (op a b : Int) (w : World) : Calls Tryd.prog 13 #[.int .i64 op, .int .i64 a, .int .i64 b] w fun e w' => e = .returned (.tuple #[.int .i64 (wDo op a b).1, .bool (wDo op a b).2]) ∧ w = w' := by
  by_cases h : 6 ≤ op ∧ op ≤ 16
  · have : op = 6 ∨ op = 7 ∨ op = 8 ∨ op = 9 ∨ op = 10 ∨ op = 11 ∨ op = 12 ∨ op = 13 ∨ op = 14 ∨ op = 15 ∨ op = 16 := by omega
    rcases this with rfl | rfl | rfl | rfl | rfl | rfl | rfl | rfl | rfl | rfl | rfl
    all_goals
      clear h
      go_enter Tryd.func13, Tryd.ntmps13
      go_wp2_with (first | (go_at_call 15; refine (neg_any _ _).mono ?_; rintro e w' ⟨rfl, rfl⟩) | (go_at_call 16; refine (not_any _ _).mono ?_; rintro e w' ⟨rfl, rfl⟩) | (go_at_call 17; refine (add_any _ _ _).mono ?_; rintro e w' ⟨rfl, rfl⟩) | (go_at_call 18; refine (sub_any _ _ _).mono ?_; rintro e w' ⟨rfl, rfl⟩) | (go_at_call 19; refine (mul_any _ _ _).mono ?_; rintro e w' ⟨rfl, rfl⟩) | (go_at_call 22; refine (less_any _ _ _).mono ?_; rintro e w' ⟨rfl, rfl⟩) | (go_at_call 23; refine (same_any _ _ _).mono ?_; rintro e w' ⟨rfl, rfl⟩) | (go_at_call 24; refine (and_any _ _ _).mono ?_; rintro e w' ⟨rfl, rfl⟩) | (go_at_call 25; refine (or_any _ _ _).mono ?_; rintro e w' ⟨rfl, rfl⟩) | (go_at_call 20; refine (div_any _ _ _).mono ?_; rintro e w' ⟨rfl, rfl⟩) | (go_at_call 21; refine (mod_any _ _ _).mono ?_; rintro e w' ⟨rfl, rfl⟩))
      go_ret2
      exact ⟨rfl, rfl⟩
  · have e : wDo op a b = (0, false) := by unfold wDo; repeat (first | rw [if_neg (by omega)] | rfl)
    rw [e]
    clear e
    have n6 : (op == 6) = false := by simp; omega
    have n7 : (op == 7) = false := by simp; omega
    have n8 : (op == 8) = false := by simp; omega
    have n9 : (op == 9) = false := by simp; omega
    have n10 : (op == 10) = false := by simp; omega
    have n11 : (op == 11) = false := by simp; omega
    have n12 : (op == 12) = false := by simp; omega
    have n13 : (op == 13) = false := by simp; omega
    have n14 : (op == 14) = false := by simp; omega
    have n15 : (op == 15) = false := by simp; omega
    have n16 : (op == 16) = false := by simp; omega
    clear h
    go_enter Tryd.func13, Tryd.ntmps13
    go_wp2
    go_ret2
    exact ⟨rfl, rfl⟩

theorem itoa_least : Lib.itoa (-9223372036854775808) = [45, 57, 50, 50, 51, 51, 55, 50, 48, 51, 54, 56, 53, 52, 55, 55, 53, 56, 48, 56] := by simp [Lib.itoa, Lib.decDigits]
theorem parse_most : parseN ⟨#[57, 50, 50, 51, 51, 55, 50, 48, 51, 54, 56, 53, 52, 55, 55, 53, 56, 48, 55]⟩ = (9223372036854775807, true) := by decide +kernel
theorem parse_more : parseN ⟨#[57, 50, 50, 51, 51, 55, 50, 48, 51, 54, 56, 53, 52, 55, 55, 53, 56, 48, 56]⟩ = (0, false) := by decide +kernel
theorem parse_noughts : parseN ⟨#[48, 48, 55]⟩ = (0, false) := by decide +kernel

/-- Where the world stands against the call's beginning, kept from the walk. -/
theorem hb_start (w : World) : Hid (Below w.heap.size w w) := Below.refl _ _
theorem hb_step {w0 w w' : World} (h : Hid (Below w0.heap.size w0 w)) (h' : Below w.heap.size w w') : Hid (Below w0.heap.size w0 w') :=
  Below.trans h.out (h'.mono h.out.size)
theorem Tab.at {w0 w : World} (ht : Hid (Tab w0)) (h : Hid (Below w0.heap.size w0 w)) : Tab w := ht.out.below h.out

theorem shown_facts : wDiv (-7) 2 = (-3, true) ∧ wMod (-7) 2 = (-1, true) ∧ wDiv (-9223372036854775808) (-1) = (-9223372036854775808, true) ∧ wMod (-9223372036854775808) (-1) = (0, true) ∧ wDiv 1 0 = (0, false)
    ∧ wDo 13 (-1) 0 = (1, true) ∧ wDo 1 1 1 = (0, false) ∧ wAdd 9223372036854775807 1 = -9223372036854775808 ∧ wNot 0 = 1 := by decide +kernel

set_option maxHeartbeats 4000000 in
set_option maxRecDepth 1000000 in
theorem shown_any (w : World) (ht : Tab w) :
    Calls Tryd.prog 12 #[] w fun e w' => e = .returned (.bool true) ∧ Below w.heap.size w w' := by
  have HT := Lib.hid ht
  clear ht
  have HB := hb_start w
  obtain ⟨f1, f2, f3, f4, f5, f6, f7, f8, f9⟩ := shown_facts
  have F1 := Lib.hid f1; have F2 := Lib.hid f2; have F3 := Lib.hid f3; have F4 := Lib.hid f4; have F5 := Lib.hid f5; have F6 := Lib.hid f6; have F7 := Lib.hid f7; have F8 := Lib.hid f8; have F9 := Lib.hid f9
  clear f1 f2 f3 f4 f5 f6 f7 f8 f9
  go_enter Tryd.func12, Tryd.ntmps12
  go_wp2_with (first | (go_at_call 27; refine (parse_any _ _ (by decide)).mono ?_; rintro e w' ⟨rfl, hb⟩; replace HB := hb_step HB hb; clear hb; simp only [parse_most, parse_more, parse_noughts]) | (go_at_call 26; refine (text_any _ (by decide) (by decide) _ (Tab.at HT HB)).mono ?_; rintro e w' ⟨rfl, hb⟩; replace HB := hb_step HB hb; clear hb; simp only [itoa_least]) | (go_at_call 13; refine (do_any _ _ _ _).mono ?_; rintro e w' ⟨rfl, rfl⟩; simp only [F6.out, F7.out]) | (go_at_call 20; refine (div_any _ _ _).mono ?_; rintro e w' ⟨rfl, rfl⟩; simp only [F1.out, F3.out, F5.out]) | (go_at_call 21; refine (mod_any _ _ _).mono ?_; rintro e w' ⟨rfl, rfl⟩; simp only [F2.out, F4.out]) | (go_at_call 17; refine (add_any _ _ _).mono ?_; rintro e w' ⟨rfl, rfl⟩; simp only [F8.out]) | (go_at_call 16; refine (not_any _ _).mono ?_; rintro e w' ⟨rfl, rfl⟩; simp only [F9.out]))
  go_goals
  go_ret
  exact ⟨rfl, HB.out⟩
end Go.Proofs.YtohkafjfolojcaaDoor
