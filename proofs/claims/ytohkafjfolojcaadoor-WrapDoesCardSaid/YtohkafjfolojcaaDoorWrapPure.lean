/- Laws of the wrap layer's plain functions: what each statement's tests come to; no program. -/
import Derived.Test.YtohkafjfolojcaaDoorWrapDefs
namespace Go.Proofs.YtohkafjfolojcaaDoor
open Go.RowKit

/-- A number of 64 bits. -/
def R (a : Int) : Prop := -9223372036854775808 ≤ a ∧ a ≤ 9223372036854775807
theorem wrap64_in {a : Int} (h : R a) : wrap64 a = a := by unfold R at h; unfold wrap64; omega
theorem wrap64_R (x : Int) : R (wrap64 x) := by unfold R wrap64; omega
theorem wrap64_off (x : Int) : ∃ k : Int, wrap64 x = x + k * 18446744073709551616 :=
  ⟨-((x + 9223372036854775808) / 18446744073709551616), by unfold wrap64; omega⟩
theorem wrap64_add (x k : Int) : wrap64 (x + k * 18446744073709551616) = wrap64 x := by unfold wrap64; omega
theorem wrap64_mul_left (x c : Int) : wrap64 (wrap64 x * c) = wrap64 (x * c) := by
  obtain ⟨k, hk⟩ := wrap64_off x
  rw [hk, Int.add_mul, show k * 18446744073709551616 * c = (k * c) * 18446744073709551616 by rw [Int.mul_assoc, Int.mul_comm 18446744073709551616 c, Int.mul_assoc], wrap64_add]
theorem wrap64_mul_right (x c : Int) : wrap64 (c * wrap64 x) = wrap64 (c * x) := by
  rw [Int.mul_comm, wrap64_mul_left, Int.mul_comm]
theorem wrap64_add_left (x y : Int) : wrap64 (wrap64 x + y) = wrap64 (x + y) := by unfold wrap64; omega
theorem wrap64_add_right (x y : Int) : wrap64 (y + wrap64 x) = wrap64 (y + x) := by unfold wrap64; omega
theorem wrap64_neg (x : Int) : wrap64 (-wrap64 x) = wrap64 (-x) := by unfold wrap64; omega

/-! ### WrapRing -/
theorem add_comm_ (a b : Int) : wAdd a b = wAdd b a := by unfold wAdd; rw [Int.add_comm]
theorem mul_comm_ (a b : Int) : wMul a b = wMul b a := by unfold wMul; rw [Int.mul_comm]
theorem add_assoc_ (a b c : Int) : wAdd (wAdd a b) c = wAdd a (wAdd b c) := by unfold wAdd; rw [wrap64_add_left, wrap64_add_right, Int.add_assoc]
theorem mul_assoc_ (a b c : Int) : wMul (wMul a b) c = wMul a (wMul b c) := by unfold wMul; rw [wrap64_mul_left, wrap64_mul_right, Int.mul_assoc]
theorem sub_add_ (a b : Int) (h : R a) : wSub (wAdd a b) b = a := by unfold R at h; unfold wSub wAdd wrap64; omega
theorem add_neg_ (a : Int) : wAdd a (wNeg a) = 0 := by unfold wAdd wNeg wrap64; omega
theorem sub_neg_ (a b : Int) : wSub a b = wAdd a (wNeg b) := by unfold wSub wAdd wNeg wrap64; omega
theorem neg_neg_ (a : Int) (h : R a) : wNeg (wNeg a) = a := by unfold R at h; unfold wNeg wrap64; omega
theorem mul_add_ (a b c : Int) : wMul a (wAdd b c) = wAdd (wMul a b) (wMul a c) := by
  unfold wMul wAdd; rw [wrap64_mul_right, wrap64_add_left, wrap64_add_right, Int.mul_add]
theorem mul_one_ (a : Int) (h : R a) : wMul a 1 = a := by unfold wMul; rw [Int.mul_one, wrap64_in h]
theorem mul_zero_ (a : Int) : wMul a 0 = 0 := by unfold wMul wrap64; omega
theorem mul_neg_one_ (a : Int) : wMul a (-1) = wNeg a := by unfold wMul wNeg; congr 1; omega

/-! ### WrapParts -/
theorem tdiv_range (a b : Int) (ha : R a) (hb : R b) (h0 : b ≠ 0) (hx : ¬ (a = -9223372036854775808 ∧ b = -1)) : R (Int.tdiv a b) := by
  unfold R at *
  have h1 : (Int.tdiv a b).natAbs = a.natAbs / b.natAbs := Int.natAbs_tdiv a b
  have hbp : 0 < b.natAbs := by omega
  have h2 : a.natAbs / b.natAbs ≤ a.natAbs := Nat.div_le_self _ _
  by_cases h3 : a = -9223372036854775808
  · have h4 : 2 ≤ b.natAbs ∨ b = 1 := by omega
    rcases h4 with h4 | h4
    · have : a.natAbs / b.natAbs ≤ a.natAbs / 2 := Nat.div_le_div_left h4 (by omega)
      omega
    · subst h4; rw [Int.tdiv_one]; omega
  · omega
theorem parts_again (a b : Int) (ha : R a) : wAdd (wMul (wrap64 (Int.tdiv a b)) b) (Int.tmod a b) = a := by
  unfold wAdd wMul
  rw [wrap64_mul_left, wrap64_add_left]
  have := Int.tdiv_mul_add_tmod a b
  rw [this, wrap64_in ha]
theorem tmod_near (a b : Int) (h0 : b ≠ 0) : (Int.tmod a b).natAbs < b.natAbs := by
  rw [Int.natAbs_tmod]
  exact Nat.mod_lt _ (by omega)
theorem tmod_sign_pos (a b : Int) (h : 0 ≤ a) : 0 ≤ Int.tmod a b := Int.tmod_nonneg b h
theorem tmod_sign_neg (a b : Int) (h : a ≤ 0) : Int.tmod a b ≤ 0 := by
  have := Int.tmod_nonneg b (show 0 ≤ -a by omega)
  rw [Int.neg_tmod] at this
  omega

/-! ### WrapBits -/
theorem flag_01 (b : Bool) : flagI b = 0 ∨ flagI b = 1 := by cases b <;> simp [flagI]
theorem less_eq (a b : Int) : wLess a b = if a < b then 1 else 0 := by unfold wLess flagI; by_cases h : a < b <;> simp [h]
theorem same_eq (a b : Int) : wSame a b = if a = b then 1 else 0 := by unfold wSame flagI; by_cases h : a = b <;> simp [h]
theorem not_eq (a : Int) : wNot a = if a = 0 then 1 else 0 := by unfold wNot flagI; by_cases h : a = 0 <;> simp [h]
theorem and_add_or_nat (n : Nat) : ∀ a b : Nat, a < 2 ^ n → b < 2 ^ n → (a &&& b) + (a ||| b) = a + b := by
  induction n with
  | zero => intro a b ha hb; have : a = 0 := by omega
            have : b = 0 := by omega
            subst_vars; rfl
  | succ n ih =>
    intro a b ha hb
    have h := ih (a / 2) (b / 2) (by omega) (by omega)
    have h1 : (a &&& b) / 2 = a / 2 &&& b / 2 := Nat.and_div_two
    have h2 : (a ||| b) / 2 = a / 2 ||| b / 2 := Nat.or_div_two
    have h3 : (a &&& b) % 2 = (a % 2) &&& (b % 2) := by have := Nat.and_mod_two_pow (a := a) (b := b) (n := 1); simpa using this
    have h4 : (a ||| b) % 2 = (a % 2) ||| (b % 2) := by have := Nat.or_mod_two_pow (a := a) (b := b) (n := 1); simpa using this
    have h5 : (a % 2 = 0 ∨ a % 2 = 1) ∧ (b % 2 = 0 ∨ b % 2 = 1) := by omega
    obtain ⟨h5, h6⟩ := h5
    rw [← h1, ← h2] at h
    rcases h5 with h5 | h5 <;> rcases h6 with h6 | h6 <;> rw [h5, h6] at h3 h4 <;> simp only [Nat.zero_and, Nat.and_zero, Nat.and_self, Nat.zero_or, Nat.or_zero, Nat.or_self] at h3 h4 <;> omega
theorem ofInt_toNat (a : Int) : ((BitVec.ofInt 64 a).toNat : Int) = a % 18446744073709551616 := by
  rw [BitVec.toNat_ofInt]; have := Int.emod_nonneg a (show (18446744073709551616 : Int) ≠ 0 by decide); simp; omega
theorem wAnd_nat (a b : Int) : wAnd a b = wrap64 (((BitVec.ofInt 64 a).toNat &&& (BitVec.ofInt 64 b).toNat : Nat) : Int) := by
  have e : wAnd a b = IntKind.i64.wrap ((BitVec.ofInt 64 a &&& BitVec.ofInt 64 b).toNat : Int) := rfl
  rw [e, BitVec.toNat_and, IntKind.wrap_i64]; unfold wrap64; rfl
theorem wOr_nat (a b : Int) : wOr a b = wrap64 (((BitVec.ofInt 64 a).toNat ||| (BitVec.ofInt 64 b).toNat : Nat) : Int) := by
  have e : wOr a b = IntKind.i64.wrap ((BitVec.ofInt 64 a ||| BitVec.ofInt 64 b).toNat : Int) := rfl
  rw [e, BitVec.toNat_or, IntKind.wrap_i64]; unfold wrap64; rfl
theorem wrap64_emod (a : Int) : wrap64 (a % 18446744073709551616) = wrap64 a := by unfold wrap64; omega
theorem and_or_sum (a b : Int) : wAdd (wAnd a b) (wOr a b) = wAdd a b := by
  rw [wAnd_nat, wOr_nat]
  unfold wAdd
  rw [wrap64_add_left, wrap64_add_right]
  have h := and_add_or_nat 64 (BitVec.ofInt 64 a).toNat (BitVec.ofInt 64 b).toNat (BitVec.isLt _) (BitVec.isLt _)
  have h' : (((BitVec.ofInt 64 a).toNat &&& (BitVec.ofInt 64 b).toNat : Nat) : Int) + (((BitVec.ofInt 64 a).toNat ||| (BitVec.ofInt 64 b).toNat : Nat) : Int) = a % 18446744073709551616 + b % 18446744073709551616 := by
    rw [← ofInt_toNat a, ← ofInt_toNat b]; omega
  rw [h']
  unfold wrap64
  omega
theorem and_self_ (a : Int) (h : R a) : wAnd a a = a := by
  rw [wAnd_nat, Nat.and_self, ofInt_toNat, wrap64_emod, wrap64_in h]
theorem or_zero_ (a : Int) (h : R a) : wOr a 0 = a := by
  rw [wOr_nat, show (BitVec.ofInt 64 0).toNat = 0 by decide, Nat.or_zero, ofInt_toNat, wrap64_emod, wrap64_in h]
theorem and_ones_ (a : Int) (h : R a) : wAnd a (-1) = a := by
  have h1 : (BitVec.ofInt 64 (-1)).toNat = 2 ^ 64 - 1 := by decide
  rw [wAnd_nat, h1, Nat.and_two_pow_sub_one_eq_mod, Nat.mod_eq_of_lt (BitVec.isLt _), ofInt_toNat, wrap64_emod, wrap64_in h]

/-! ### WrapSigns -/
theorem neg_mul_ (a b : Int) : wNeg (wMul a b) = wMul (wNeg a) b := by unfold wNeg wMul; rw [wrap64_neg, wrap64_mul_left, Int.neg_mul]
theorem neg_add_ (a b : Int) : wNeg (wAdd a b) = wSub (wNeg a) b := by unfold wNeg wAdd wSub wrap64; omega
theorem wNeg_in {a : Int} (h : R a) (h1 : a ≠ -9223372036854775808) : wNeg a = -a := by unfold R at h; unfold wNeg wrap64; omega
/-- Div and Mod at the other signs, in the walk's words. -/
theorem signs_facts (a b : Int) (ha : R a) (hb : R b) (h : ¬ (b = 0 ∨ a = -9223372036854775808 ∨ b = -9223372036854775808)) :
    wDiv a b = (wrap64 (Int.tdiv a b), true) ∧ wMod a b = (Int.tmod a b, true) ∧
    wDiv (wNeg a) b = (-wrap64 (Int.tdiv a b), true) ∧ wMod (wNeg a) b = (-Int.tmod a b, true) ∧
    wDiv a (wNeg b) = (-wrap64 (Int.tdiv a b), true) ∧ wMod a (wNeg b) = (Int.tmod a b, true) ∧
    -wrap64 (Int.tdiv a b) = wrap64 (-wrap64 (Int.tdiv a b)) ∧ -Int.tmod a b = wrap64 (-Int.tmod a b) ∧ -wrap64 (Int.tdiv a b) = wrap64 (-wrap64 (Int.tdiv a b)) ∧ Int.tmod a b = Int.tmod a b := by
  have h0 : b ≠ 0 := by omega
  have hq := tdiv_range a b ha hb h0 (by omega)
  have hq1 : -9223372036854775807 ≤ Int.tdiv a b := by
    have h1 : (Int.tdiv a b).natAbs = a.natAbs / b.natAbs := Int.natAbs_tdiv a b
    have h2 : a.natAbs / b.natAbs ≤ a.natAbs := Nat.div_le_self _ _
    unfold R at ha
    omega
  have hr := tmod_near a b h0
  have hna := wNeg_in ha (by omega)
  have hnb := wNeg_in hb (by omega)
  unfold R at hq ha hb
  rw [hna, hnb, wrap64_in hq]
  have hw : wrap64 (-Int.tdiv a b) = -Int.tdiv a b := wrap64_in (by unfold R; omega)
  have hw2 : wrap64 (-Int.tmod a b) = -Int.tmod a b := wrap64_in (by unfold R; omega)
  refine ⟨if_neg h0 |>.trans (by rw [wrap64_in hq]), if_neg h0, (if_neg h0).trans (by rw [Int.neg_tdiv, hw]), (if_neg h0).trans (by rw [Int.neg_tmod]), (if_neg (by omega)).trans (by rw [Int.tdiv_neg, hw]), (if_neg (by omega)).trans (by rw [Int.tmod_neg]), hw.symm, hw2.symm, hw.symm, rfl⟩

/-! ### WrapOrder -/
theorem add_plain {a c : Int} (ha : R a) (hc : R c) (h : (wAdd a c < a ↔ c < 0)) : wAdd a c = a + c := by
  unfold R at ha hc
  unfold wAdd wrap64 at *
  omega
theorem add_inj {a b c : Int} (ha : R a) (hb : R b) (h : wAdd a c = wAdd b c) : a = b := by
  unfold R at ha hb
  unfold wAdd wrap64 at *
  omega
end Go.Proofs.YtohkafjfolojcaaDoor
