/- The reference's Do is wrap's: the same number and the same word, for every op and numbers. -/
import Derived.Test.YtohkafjfolojcaaDoorRefWalks
namespace Go.Proofs.YtohkafjfolojcaaDoor
open Go.RowKit Go.Sort
set_option linter.unusedVariables false

theorem xor63 (x : Nat) (hx : x < 18446744073709551616) : x ^^^ 9223372036854775808 = if x < 9223372036854775808 then x + 9223372036854775808 else x - 9223372036854775808 := by
  have h := xor_and_nat 64 x 9223372036854775808 (by omega) (by omega)
  have h2 : x &&& 9223372036854775808 = if x < 9223372036854775808 then 0 else 9223372036854775808 := by
    have h3 : (x &&& 9223372036854775808) % 2 ^ 63 = 0 := by rw [Nat.and_mod_two_pow]; simp
    have h4 : (x &&& 9223372036854775808) / 2 ^ 63 = x / 2 ^ 63 &&& 1 := by rw [Nat.and_div_two_pow]
    rw [Nat.and_one_is_mod] at h4
    split <;> omega
  by_cases h5 : x < 9223372036854775808
  · rw [if_pos h5] at h2 ⊢; omega
  · rw [if_neg h5] at h2 ⊢; omega
/-- A number's 64 bits. -/
theorem bits_of (a : Int) (ha : R a) : ∃ x : Nat, x < 18446744073709551616 ∧ IntKind.u64.wrap a = (x : Int) ∧ (BitVec.ofInt 64 a).toNat = x ∧ (x : Int) = a % 18446744073709551616 :=
  ⟨(BitVec.ofInt 64 a).toNat, BitVec.isLt _, by rw [IntKind.wrap_u64, ofInt_toNat], rfl, ofInt_toNat a⟩
theorem tdiv_size (a b : Int) : Int.tdiv a b = if (decide (a < 0) != decide (b < 0)) then -((a.natAbs / b.natAbs : Nat) : Int) else ((a.natAbs / b.natAbs : Nat) : Int) := by
  rcases Int.natAbs_eq a with h | h <;> rcases Int.natAbs_eq b with h' | h'
  all_goals
    generalize a.natAbs = p at *
    generalize b.natAbs = q at *
    subst h h'
  · rw [show decide ((p : Int) < 0) = false by simp, show decide ((q : Int) < 0) = false by simp]
    simp
  · rw [Int.tdiv_neg, show decide ((p : Int) < 0) = false by simp]
    by_cases hq : q = 0
    · subst hq; simp
    · rw [show decide (-(q : Int) < 0) = true by simp; omega]; simp
  · rw [Int.neg_tdiv, show decide ((q : Int) < 0) = false by simp]
    by_cases hp : p = 0
    · subst hp; simp
    · rw [show decide (-(p : Int) < 0) = true by simp; omega]; simp
  · rw [Int.neg_tdiv, Int.tdiv_neg, Int.neg_neg]
    by_cases hq : q = 0
    · subst hq; simp
    · by_cases hp : p = 0
      · subst hp; simp
      · rw [show decide (-(p : Int) < 0) = true by simp; omega, show decide (-(q : Int) < 0) = true by simp; omega]; simp
theorem tmod_size (a b : Int) : Int.tmod a b = if decide (a < 0) then -((a.natAbs % b.natAbs : Nat) : Int) else ((a.natAbs % b.natAbs : Nat) : Int) := by
  have h : ∀ p q : Nat, Int.tmod (p : Int) (q : Int) = ((p % q : Nat) : Int) := fun p q => by
    rw [Int.tmod_eq_emod_of_nonneg (by omega), Int.natCast_emod]
  rcases Int.natAbs_eq a with ha | ha <;> rcases Int.natAbs_eq b with hb | hb
  all_goals
    generalize a.natAbs = p at *
    generalize b.natAbs = q at *
    subst ha hb
  · rw [show decide ((p : Int) < 0) = false by simp, h]; simp
  · rw [Int.tmod_neg, show decide ((p : Int) < 0) = false by simp, h]; simp
  · rw [Int.neg_tmod, h]
    by_cases hp : p = 0
    · subst hp; simp
    · rw [show decide (-(p : Int) < 0) = true by simp; omega]; simp
  · rw [Int.neg_tmod, Int.tmod_neg, h]
    by_cases hp : p = 0
    · subst hp; simp
    · rw [show decide (-(p : Int) < 0) = true by simp; omega]; simp

set_option maxHeartbeats 1000000 in
set_option maxRecDepth 1000000 in
theorem refdo_6 (a b : Int) (ha : R a) (hb : R b) (w : World) :
    Calls Tryd.prog 14 #[.int .i64 6, .int .i64 a, .int .i64 b] w fun e w' => e = .returned (.tuple #[.int .i64 (wDo 6 a b).1, .bool (wDo 6 a b).2]) ∧ w = w' := by
  obtain ⟨x, hx, cx, bx, vx⟩ := bits_of a ha
  obtain ⟨y, hy, cy, b_y, vy⟩ := bits_of b hb
  obtain ⟨c, hc⟩ : ∃ c : Nat, (0 + (18446744073709551616 - x)) % 18446744073709551616 = c := ⟨_, rfl⟩
  have hw : IntKind.i64.wrap (c : Int) = wNeg a := by rw [IntKind.wrap_i64]; unfold wNeg wrap64; omega
  have hd : wDo 6 a b = (wNeg a, true) := rfl
  rw [hd]
  have HC := Lib.hid hc
  clear hc bx b_y vx vy cy hy hd ha hb
  go_enter Tryd.func14, Tryd.ntmps14
  go_wp2_with (first | (go_at_call 30; refine (minus_r 0 x c (by omega) hx HC.out _).mono ?_; rintro e w' ⟨rfl, rfl⟩))
  go_ret2
  exact ⟨rfl, rfl⟩

set_option maxHeartbeats 1000000 in
set_option maxRecDepth 1000000 in
theorem refdo_7 (a b : Int) (ha : R a) (hb : R b) (w : World) :
    Calls Tryd.prog 14 #[.int .i64 7, .int .i64 a, .int .i64 b] w fun e w' => e = .returned (.tuple #[.int .i64 (wDo 7 a b).1, .bool (wDo 7 a b).2]) ∧ w = w' := by
  obtain ⟨x, hx, cx, bx, vx⟩ := bits_of a ha
  obtain ⟨y, hy, cy, b_y, vy⟩ := bits_of b hb
  have h1 : (((x : Int)) == 0) = (a == 0) := by
    have : ((x : Int) = 0 ↔ a = 0) := by unfold R at ha; omega
    rw [Bool.eq_iff_iff]; simpa using this
  have hd : wDo 7 a b = (flagI (a == 0), true) := rfl
  rw [hd]
  clear bx b_y vx vy cy hy hx hd ha hb
  go_enter Tryd.func14, Tryd.ntmps14
  go_wp2_with (first | (go_at_call 31; refine (one_any _ _).mono ?_; rintro e w' ⟨rfl, rfl⟩))
  go_ret2
  exact ⟨rfl, rfl⟩

set_option maxHeartbeats 1000000 in
set_option maxRecDepth 1000000 in
theorem refdo_8 (a b : Int) (ha : R a) (hb : R b) (w : World) :
    Calls Tryd.prog 14 #[.int .i64 8, .int .i64 a, .int .i64 b] w fun e w' => e = .returned (.tuple #[.int .i64 (wDo 8 a b).1, .bool (wDo 8 a b).2]) ∧ w = w' := by
  obtain ⟨x, hx, cx, bx, vx⟩ := bits_of a ha
  obtain ⟨y, hy, cy, b_y, vy⟩ := bits_of b hb
  obtain ⟨s, hs⟩ : ∃ s : Nat, (x + y) % 18446744073709551616 = s := ⟨_, rfl⟩
  have hw : IntKind.i64.wrap (s : Int) = wAdd a b := by rw [IntKind.wrap_i64]; unfold wAdd wrap64; omega
  have hd : wDo 8 a b = (wAdd a b, true) := rfl
  rw [hd]
  have HS := Lib.hid hs
  clear hs bx b_y vx vy hd ha hb
  go_enter Tryd.func14, Tryd.ntmps14
  go_wp2_with (first | (go_at_call 32; refine (plus_r x y s hx hy HS.out _).mono ?_; rintro e w' ⟨rfl, rfl⟩))
  go_ret2
  exact ⟨rfl, rfl⟩

set_option maxHeartbeats 1000000 in
set_option maxRecDepth 1000000 in
theorem refdo_9 (a b : Int) (ha : R a) (hb : R b) (w : World) :
    Calls Tryd.prog 14 #[.int .i64 9, .int .i64 a, .int .i64 b] w fun e w' => e = .returned (.tuple #[.int .i64 (wDo 9 a b).1, .bool (wDo 9 a b).2]) ∧ w = w' := by
  obtain ⟨x, hx, cx, bx, vx⟩ := bits_of a ha
  obtain ⟨y, hy, cy, b_y, vy⟩ := bits_of b hb
  obtain ⟨s, hs⟩ : ∃ s : Nat, (x + (18446744073709551616 - y)) % 18446744073709551616 = s := ⟨_, rfl⟩
  have hw : IntKind.i64.wrap (s : Int) = wSub a b := by rw [IntKind.wrap_i64]; unfold wSub wrap64; omega
  have hd : wDo 9 a b = (wSub a b, true) := rfl
  rw [hd]
  have HS := Lib.hid hs
  clear hs bx b_y vx vy hd ha hb
  go_enter Tryd.func14, Tryd.ntmps14
  go_wp2_with (first | (go_at_call 30; refine (minus_r x y s hx hy HS.out _).mono ?_; rintro e w' ⟨rfl, rfl⟩))
  go_ret2
  exact ⟨rfl, rfl⟩

set_option maxHeartbeats 1000000 in
set_option maxRecDepth 1000000 in
theorem refdo_10 (a b : Int) (ha : R a) (hb : R b) (w : World) :
    Calls Tryd.prog 14 #[.int .i64 10, .int .i64 a, .int .i64 b] w fun e w' => e = .returned (.tuple #[.int .i64 (wDo 10 a b).1, .bool (wDo 10 a b).2]) ∧ w = w' := by
  obtain ⟨x, hx, cx, bx, vx⟩ := bits_of a ha
  obtain ⟨y, hy, cy, b_y, vy⟩ := bits_of b hb
  obtain ⟨s, hs⟩ : ∃ s : Nat, (x * y) % 18446744073709551616 = s := ⟨_, rfl⟩
  have hw : IntKind.i64.wrap (s : Int) = wMul a b := by
    have e : (s : Int) = (a * b) % 18446744073709551616 := by
      rw [← hs, Int.natCast_emod, Int.natCast_mul, vx, vy]
      exact (Int.mul_emod a b 18446744073709551616).symm
    rw [IntKind.wrap_i64, e]; unfold wMul wrap64; omega
  have hd : wDo 10 a b = (wMul a b, true) := rfl
  rw [hd]
  have HS := Lib.hid hs
  clear hs bx b_y vx vy hd ha hb
  go_enter Tryd.func14, Tryd.ntmps14
  go_wp2_with (first | (go_at_call 33; refine (times_r x y s hx hy HS.out _).mono ?_; rintro e w' ⟨rfl, rfl⟩))
  go_ret2
  exact ⟨rfl, rfl⟩

set_option maxHeartbeats 1000000 in
set_option maxRecDepth 1000000 in
theorem refdo_13 (a b : Int) (ha : R a) (hb : R b) (w : World) :
    Calls Tryd.prog 14 #[.int .i64 13, .int .i64 a, .int .i64 b] w fun e w' => e = .returned (.tuple #[.int .i64 (wDo 13 a b).1, .bool (wDo 13 a b).2]) ∧ w = w' := by
  obtain ⟨x, hx, cx, bx, vx⟩ := bits_of a ha
  obtain ⟨y, hy, cy, b_y, vy⟩ := bits_of b hb
  have xx := bits_xor_u64_nat x 9223372036854775808 hx (by omega)
  have yy := bits_xor_u64_nat y 9223372036854775808 hy (by omega)
  rw [xor63 x hx] at xx
  rw [xor63 y hy] at yy
  obtain ⟨p, hp⟩ : ∃ p : Nat, (if x < 9223372036854775808 then x + 9223372036854775808 else x - 9223372036854775808) = p := ⟨_, rfl⟩
  obtain ⟨q, hq⟩ : ∃ q : Nat, (if y < 9223372036854775808 then y + 9223372036854775808 else y - 9223372036854775808) = q := ⟨_, rfl⟩
  rw [hp] at xx
  rw [hq] at yy
  have xx' : Go.bits .xor .u64 (x : Int) 9223372036854775808 = (p : Int) := xx
  have yy' : Go.bits .xor .u64 (y : Int) 9223372036854775808 = (q : Int) := yy
  have hpq : decide ((p : Int) < (q : Int)) = decide (a < b) := by
    have : ((p : Int) < (q : Int) ↔ a < b) := by unfold R at ha hb; split at hp <;> split at hq <;> omega
    rw [decide_eq_decide]; exact this
  have hpq' : decide (p < q) = decide (a < b) := by rw [← hpq, decide_eq_decide]; omega
  have hd : wDo 13 a b = (flagI (decide (a < b)), true) := rfl
  rw [hd]
  clear bx b_y vx vy hd ha hb hx hy xx yy hp hq
  go_enter Tryd.func14, Tryd.ntmps14
  go_wp2_with (first | (go_at_call 31; refine (one_any _ _).mono ?_; rintro e w' ⟨rfl, rfl⟩))
  go_ret2
  exact ⟨rfl, rfl⟩

set_option maxHeartbeats 1000000 in
set_option maxRecDepth 1000000 in
theorem refdo_14 (a b : Int) (ha : R a) (hb : R b) (w : World) :
    Calls Tryd.prog 14 #[.int .i64 14, .int .i64 a, .int .i64 b] w fun e w' => e = .returned (.tuple #[.int .i64 (wDo 14 a b).1, .bool (wDo 14 a b).2]) ∧ w = w' := by
  obtain ⟨x, hx, cx, bx, vx⟩ := bits_of a ha
  obtain ⟨y, hy, cy, b_y, vy⟩ := bits_of b hb
  have xy := bits_xor_u64_nat x y hx hy
  obtain ⟨z, hz⟩ : ∃ z : Nat, x ^^^ y = z := ⟨_, rfl⟩
  rw [hz] at xy
  have h1 : ((z : Int) == 0) = (a == b) := by
    have h2 : (z = 0 ↔ x = y) := by
      rw [← hz]
      constructor
      · intro h; have := xor_and_nat 64 x y (by omega) (by omega)
        have h3 : x &&& y ≤ x := Nat.and_le_left
        have h4 : x &&& y ≤ y := Nat.and_le_right
        omega
      · intro h; rw [h, Nat.xor_self]
    have : ((z : Int) = 0 ↔ a = b) := by unfold R at ha hb; omega
    rw [Bool.eq_iff_iff]; simpa using this
  have hd : wDo 14 a b = (flagI (a == b), true) := rfl
  rw [hd]
  clear bx b_y vx vy hd ha hb hx hy hz
  go_enter Tryd.func14, Tryd.ntmps14
  go_wp2_with (first | (go_at_call 31; refine (one_any _ _).mono ?_; rintro e w' ⟨rfl, rfl⟩))
  go_ret2
  exact ⟨rfl, rfl⟩

set_option maxHeartbeats 1000000 in
set_option maxRecDepth 1000000 in
theorem refdo_15 (a b : Int) (ha : R a) (hb : R b) (w : World) :
    Calls Tryd.prog 14 #[.int .i64 15, .int .i64 a, .int .i64 b] w fun e w' => e = .returned (.tuple #[.int .i64 (wDo 15 a b).1, .bool (wDo 15 a b).2]) ∧ w = w' := by
  obtain ⟨x, hx, cx, bx, vx⟩ := bits_of a ha
  obtain ⟨y, hy, cy, b_y, vy⟩ := bits_of b hb
  have xy := and_u64 x y hx hy
  have hd : wDo 15 a b = (wAnd a b, true) := rfl
  have hw : IntKind.i64.wrap ((x &&& y : Nat) : Int) = wAnd a b := by rw [wAnd_nat, bx, b_y, IntKind.wrap_i64]; unfold wrap64; rfl
  obtain ⟨z, hz⟩ : ∃ z : Nat, x &&& y = z := ⟨_, rfl⟩
  rw [hz] at xy hw
  rw [hd]
  clear bx b_y vx vy hd ha hb hx hy hz
  go_enter Tryd.func14, Tryd.ntmps14
  go_wp2
  go_ret2
  exact ⟨rfl, rfl⟩

set_option maxHeartbeats 1000000 in
set_option maxRecDepth 1000000 in
theorem refdo_16 (a b : Int) (ha : R a) (hb : R b) (w : World) :
    Calls Tryd.prog 14 #[.int .i64 16, .int .i64 a, .int .i64 b] w fun e w' => e = .returned (.tuple #[.int .i64 (wDo 16 a b).1, .bool (wDo 16 a b).2]) ∧ w = w' := by
  obtain ⟨x, hx, cx, bx, vx⟩ := bits_of a ha
  obtain ⟨y, hy, cy, b_y, vy⟩ := bits_of b hb
  have xy := and_u64 x y hx hy
  have hd : wDo 16 a b = (wOr a b, true) := rfl
  have hw : IntKind.i64.wrap ((x ||| y : Nat) : Int) = wOr a b := by rw [wOr_nat, bx, b_y, IntKind.wrap_i64]; unfold wrap64; rfl
  have hsum := and_add_or_nat 64 x y (by omega) (by omega)
  have hol : x ||| y < 2 ^ 64 := Nat.or_lt_two_pow (by omega) (by omega)
  obtain ⟨z, hz⟩ : ∃ z : Nat, x &&& y = z := ⟨_, rfl⟩
  obtain ⟨u, hu⟩ : ∃ u : Nat, x ||| y = u := ⟨_, rfl⟩
  obtain ⟨s, hs⟩ : ∃ s : Nat, (x + y) % 18446744073709551616 = s := ⟨_, rfl⟩
  rw [hz] at xy hsum
  rw [hu] at hw hsum hol
  rw [hd]
  have HS := Lib.hid hs
  have hz2 : z < 18446744073709551616 := by rw [← hz]; exact Nat.lt_of_le_of_lt Nat.and_le_left hx
  have HU : (s + (18446744073709551616 - z)) % 18446744073709551616 = u := by omega
  have HU' := Lib.hid HU
  have hs2 : s < 18446744073709551616 := by omega
  clear bx b_y vx vy hd ha hb hz hu hs HU hsum hol
  go_enter Tryd.func14, Tryd.ntmps14
  go_wp2_with (first | (go_at_call 32; refine (plus_r x y s hx hy HS.out _).mono ?_; rintro e w' ⟨rfl, rfl⟩) | (go_at_call 30; refine (minus_r s z u hs2 hz2 HU'.out _).mono ?_; rintro e w' ⟨rfl, rfl⟩))
  go_ret2
  exact ⟨rfl, rfl⟩

set_option maxHeartbeats 2000000 in
set_option maxRecDepth 1000000 in
theorem refdo_11 (a b : Int) (ha : R a) (hb : R b) (w : World) :
    Calls Tryd.prog 14 #[.int .i64 11, .int .i64 a, .int .i64 b] w fun e w' => e = .returned (.tuple #[.int .i64 (wDo 11 a b).1, .bool (wDo 11 a b).2]) ∧ w = w' := by
  by_cases h0 : b = 0
  · have hd : wDo 11 a b = (0, false) := if_pos h0
    rw [hd]
    have b0 : (b == 0) = true := by simpa using h0
    clear hd h0 ha hb
    go_enter Tryd.func14, Tryd.ntmps14
    go_wp2
    go_ret2
    exact ⟨rfl, rfl⟩
  · have b0 : (b == 0) = false := by simpa using h0
    obtain ⟨p, hp⟩ : ∃ p, p = a.natAbs := ⟨_, rfl⟩
    obtain ⟨q, hq⟩ : ∃ q, q = b.natAbs := ⟨_, rfl⟩
    obtain ⟨n, hn⟩ : ∃ n, n = p / q := ⟨_, rfl⟩
    obtain ⟨l, hl⟩ : ∃ l, l = p % q := ⟨_, rfl⟩
    have hpl : p < 18446744073709551616 := by unfold R at ha; omega
    have hql : q < 18446744073709551616 := by unfold R at hb; omega
    have hq0 : 0 < q := by omega
    have hnl : n < 18446744073709551616 := by rw [hn]; exact Nat.lt_of_le_of_lt (Nat.div_le_self _ _) hpl
    have hll : l < 18446744073709551616 := by rw [hl]; exact Nat.lt_trans (Nat.mod_lt _ hq0) hql
    obtain ⟨r, hr, hd⟩ : ∃ r : Int, (r = if (decide (a < 0) != decide (b < 0)) then wrap64 (-(n : Int)) else wrap64 n) ∧ wDo 11 a b = (r, true) := by
      refine ⟨_, rfl, (if_neg h0).trans ?_⟩
      rw [tdiv_size, ← hp, ← hq, ← hn]
      split <;> rfl
    rw [hd]
    have HP := Lib.hid hp
    have HQ := Lib.hid hq
    have HN := Lib.hid hn
    have HL := Lib.hid hl
    have HRR := Lib.hid hr
    clear hp hq hn hl hr hd h0
    obtain ⟨s1, hs1⟩ : ∃ s1, decide (a < 0) = s1 := ⟨_, rfl⟩
    obtain ⟨s2, hs2⟩ : ∃ s2, decide (b < 0) = s2 := ⟨_, rfl⟩
    have HRa := Lib.hid ha
    have HRb := Lib.hid hb
    clear ha hb
    go_enter Tryd.func14, Tryd.ntmps14
    go_wp2_with (first | (go_at_call 34; (first | (with_reducible refine (size_r a HRa.out p HP.out _).mono ?_) | (with_reducible refine (size_r b HRb.out q HQ.out _).mono ?_)); rintro e w' ⟨rfl, rfl⟩) | (go_at_call 35; refine (parted_r p q n l hpl hql hq0 HN.out HL.out _).mono ?_; rintro e w' ⟨rfl, rfl⟩) | (go_at_call 36; refine (signed_r _ _ r (by assumption) (by first | exact HRR.out | (rw [← hs1, ← hs2]; exact HRR.out) | (rw [← hs1]; exact HRR.out)) _).mono ?_; rintro e w' ⟨rfl, rfl⟩))
    go_ret2
    exact ⟨rfl, rfl⟩

set_option maxHeartbeats 2000000 in
set_option maxRecDepth 1000000 in
theorem refdo_12 (a b : Int) (ha : R a) (hb : R b) (w : World) :
    Calls Tryd.prog 14 #[.int .i64 12, .int .i64 a, .int .i64 b] w fun e w' => e = .returned (.tuple #[.int .i64 (wDo 12 a b).1, .bool (wDo 12 a b).2]) ∧ w = w' := by
  by_cases h0 : b = 0
  · have hd : wDo 12 a b = (0, false) := if_pos h0
    rw [hd]
    have b0 : (b == 0) = true := by simpa using h0
    clear hd h0 ha hb
    go_enter Tryd.func14, Tryd.ntmps14
    go_wp2
    go_ret2
    exact ⟨rfl, rfl⟩
  · have b0 : (b == 0) = false := by simpa using h0
    obtain ⟨p, hp⟩ : ∃ p, p = a.natAbs := ⟨_, rfl⟩
    obtain ⟨q, hq⟩ : ∃ q, q = b.natAbs := ⟨_, rfl⟩
    obtain ⟨n, hn⟩ : ∃ n, n = p / q := ⟨_, rfl⟩
    obtain ⟨l, hl⟩ : ∃ l, l = p % q := ⟨_, rfl⟩
    have hpl : p < 18446744073709551616 := by unfold R at ha; omega
    have hql : q < 18446744073709551616 := by unfold R at hb; omega
    have hq0 : 0 < q := by omega
    have hnl : n < 18446744073709551616 := by rw [hn]; exact Nat.lt_of_le_of_lt (Nat.div_le_self _ _) hpl
    have hll : l < 18446744073709551616 := by rw [hl]; exact Nat.lt_trans (Nat.mod_lt _ hq0) hql
    obtain ⟨r, hr, hd⟩ : ∃ r : Int, (r = if decide (a < 0) then wrap64 (-(l : Int)) else wrap64 l) ∧ wDo 12 a b = (r, true) := by
      refine ⟨_, rfl, (if_neg h0).trans ?_⟩
      have hlq : l < q := by rw [hl]; exact Nat.mod_lt _ hq0
      have hlp : l ≤ p := by rw [hl]; exact Nat.mod_le _ _
      rw [tmod_size, ← hp, ← hq, ← hl]
      unfold R at ha hb
      split
      · rename_i h; have : a < 0 := by simpa using h
        rw [wrap64_in (a := -(l : Int)) (by unfold R; omega)]
      · rename_i h; have : ¬ a < 0 := by simpa using h
        rw [wrap64_in (a := (l : Int)) (by unfold R; omega)]
    rw [hd]
    have HP := Lib.hid hp
    have HQ := Lib.hid hq
    have HN := Lib.hid hn
    have HL := Lib.hid hl
    have HRR := Lib.hid hr
    clear hp hq hn hl hr hd h0
    obtain ⟨s1, hs1⟩ : ∃ s1, decide (a < 0) = s1 := ⟨_, rfl⟩
    obtain ⟨s2, hs2⟩ : ∃ s2, decide (b < 0) = s2 := ⟨_, rfl⟩
    have HRa := Lib.hid ha
    have HRb := Lib.hid hb
    clear ha hb
    go_enter Tryd.func14, Tryd.ntmps14
    go_wp2_with (first | (go_at_call 34; (first | (with_reducible refine (size_r a HRa.out p HP.out _).mono ?_) | (with_reducible refine (size_r b HRb.out q HQ.out _).mono ?_)); rintro e w' ⟨rfl, rfl⟩) | (go_at_call 35; refine (parted_r p q n l hpl hql hq0 HN.out HL.out _).mono ?_; rintro e w' ⟨rfl, rfl⟩) | (go_at_call 36; refine (signed_r _ _ r (by assumption) (by first | exact HRR.out | (rw [← hs1, ← hs2]; exact HRR.out) | (rw [← hs1]; exact HRR.out)) _).mono ?_; rintro e w' ⟨rfl, rfl⟩))
    go_ret2
    exact ⟨rfl, rfl⟩

set_option maxHeartbeats 1000000 in
set_option maxRecDepth 1000000 in
theorem refdo_none (op a b : Int) (h : ¬ (6 ≤ op ∧ op ≤ 16)) (w : World) :
    Calls Tryd.prog 14 #[.int .i64 op, .int .i64 a, .int .i64 b] w fun e w' => e = .returned (.tuple #[.int .i64 0, .bool false]) ∧ w = w' := by
  have n6 : (op == 6) = false := by simp; omega
  have n7 : (op == 7) = false := by simp; omega
  have n8 : (op == 8) = false := by simp; omega
  have n9 : (op == 9) = false := by simp; omega
  have n10 : (op == 10) = false := by simp; omega
  have n11 : (op == 11) = false := by simp; omega
  have n12 : (op == 12) = false := by simp; omega
  have n13 : (op == 13) = false := by simp; omega
  have n14 : (op == 14) = false := by simp; omega
  have n15 : (op == 15) = false := by simp; omega
  have n16 : (op == 16) = false := by simp; omega
  clear h
  go_enter Tryd.func14, Tryd.ntmps14
  go_wp2
  go_ret2
  exact ⟨rfl, rfl⟩
end Go.Proofs.YtohkafjfolojcaaDoor
