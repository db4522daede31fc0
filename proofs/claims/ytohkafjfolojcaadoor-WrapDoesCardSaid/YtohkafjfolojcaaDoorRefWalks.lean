/- The reference's operations over numbers without a sign compute sums, differences, products and parts of 64 bits. -/
import Derived.Test.YtohkafjfolojcaaDoorWrap
import Derived.Test.YtohkafjfolojcaaDoorWrapPure
import Derived.Laws.Bits64
namespace Go.Proofs.YtohkafjfolojcaaDoor
open Go.RowKit Go.Sort
set_option linter.unusedVariables false

theorem and_u64 (a b : Nat) (ha : a < 18446744073709551616) (hb : b < 18446744073709551616) : Go.bits .and .u64 (a : Int) (b : Int) = ((a &&& b : Nat) : Int) := by
  have hx : a &&& b < 2 ^ 64 := Nat.lt_of_le_of_lt Nat.and_le_left ha
  have h1 : (BitVec.ofInt 64 (a : Int)).toNat = a := by rw [BitVec.ofInt_natCast, BitVec.toNat_ofNat]; exact Nat.mod_eq_of_lt (by omega)
  have h2 : (BitVec.ofInt 64 (b : Int)).toNat = b := by rw [BitVec.ofInt_natCast, BitVec.toNat_ofNat]; exact Nat.mod_eq_of_lt (by omega)
  have e : Go.bits .and .u64 (a : Int) (b : Int) = IntKind.u64.wrap ((BitVec.ofInt 64 (a : Int) &&& BitVec.ofInt 64 (b : Int)).toNat : Int) := rfl
  rw [e, BitVec.toNat_and, h1, h2, IntKind.wrap_u64]
  omega
theorem or_u64 (a b : Nat) (ha : a < 18446744073709551616) (hb : b < 18446744073709551616) : Go.bits .or .u64 (a : Int) (b : Int) = ((a ||| b : Nat) : Int) := by
  have hx : a ||| b < 2 ^ 64 := Nat.or_lt_two_pow (by omega) (by omega)
  have h1 : (BitVec.ofInt 64 (a : Int)).toNat = a := by rw [BitVec.ofInt_natCast, BitVec.toNat_ofNat]; exact Nat.mod_eq_of_lt (by omega)
  have h2 : (BitVec.ofInt 64 (b : Int)).toNat = b := by rw [BitVec.ofInt_natCast, BitVec.toNat_ofNat]; exact Nat.mod_eq_of_lt (by omega)
  have e : Go.bits .or .u64 (a : Int) (b : Int) = IntKind.u64.wrap ((BitVec.ofInt 64 (a : Int) ||| BitVec.ofInt 64 (b : Int)).toNat : Int) := rfl
  rw [e, BitVec.toNat_or, h1, h2, IntKind.wrap_u64]
  omega
theorem xor_and_nat (n : Nat) : ∀ a b : Nat, a < 2 ^ n → b < 2 ^ n → (a ^^^ b) + 2 * (a &&& b) = a + b := by
  induction n with
  | zero => intro a b ha hb; have : a = 0 := by omega
            have : b = 0 := by omega
            subst_vars; rfl
  | succ n ih =>
    intro a b ha hb
    have h := ih (a / 2) (b / 2) (by omega) (by omega)
    have h1 : (a &&& b) / 2 = a / 2 &&& b / 2 := Nat.and_div_two
    have h2 : (a ^^^ b) / 2 = a / 2 ^^^ b / 2 := Nat.xor_div_two
    have h3 : (a &&& b) % 2 = (a % 2) &&& (b % 2) := by have := Nat.and_mod_two_pow (a := a) (b := b) (n := 1); simpa using this
    have h4 : (a ^^^ b) % 2 = (a % 2) ^^^ (b % 2) := by have := Nat.xor_mod_two_pow (a := a) (b := b) (n := 1); simpa using this
    have h5 : (a % 2 = 0 ∨ a % 2 = 1) ∧ (b % 2 = 0 ∨ b % 2 = 1) := by omega
    obtain ⟨h5, h6⟩ := h5
    rw [← h1, ← h2] at h
    rcases h5 with h5 | h5 <;> rcases h6 with h6 | h6 <;> rw [h5, h6] at h3 h4 <;> simp only [Nat.zero_and, Nat.and_zero, Nat.and_self, Nat.zero_xor, Nat.xor_zero, Nat.xor_self] at h3 h4 <;> omega
/-- A round of the sum by carries. -/
theorem plus_round (a b i s : Nat) (hi : i < 64) (ha : a < 18446744073709551616) (hb : b < 18446744073709551616) (hd : 2 ^ i ∣ b) (hs : (a + b) % 18446744073709551616 = s) :
    a ^^^ b < 18446744073709551616 ∧ 2 ^ (i + 1) ∣ (a &&& b) * 2 % 18446744073709551616 ∧ ((a ^^^ b) + (a &&& b) * 2 % 18446744073709551616) % 18446744073709551616 = s := by
  refine ⟨Nat.xor_lt_two_pow (n := 64) (by omega) (by omega), ?_, ?_⟩
  · have h1 : (a &&& b) % 2 ^ i = 0 := by rw [Nat.and_mod_two_pow, Nat.mod_eq_zero_of_dvd hd, Nat.and_zero]
    obtain ⟨c, hc⟩ := Nat.dvd_of_mod_eq_zero h1
    have h2 : 2 ^ (i + 1) ∣ (a &&& b) * 2 := ⟨c, by rw [hc, Nat.pow_succ]; simp only [Nat.mul_comm, Nat.mul_left_comm]⟩
    have h3 : 2 ^ (i + 1) ∣ 18446744073709551616 := by
      have := Nat.pow_dvd_pow 2 (show i + 1 ≤ 64 by omega)
      simpa using this
    exact (Nat.dvd_mod_iff h3).mpr h2
  · have := xor_and_nat 64 a b (by omega) (by omega)
    omega

set_option maxHeartbeats 1000000 in
set_option maxRecDepth 1000000 in
theorem plus_any (a b : Nat) (ha : a < 18446744073709551616) (hb : b < 18446744073709551616) (w : World) :
    Calls Tryd.prog 32 #[.int .u64 a, .int .u64 b] w fun e w' => e = .returned (.int .u64 (((a + b) % 18446744073709551616 : Nat) : Int)) ∧ w = w' := by
  obtain ⟨s, hs⟩ : ∃ s, (a + b) % 18446744073709551616 = s := ⟨_, rfl⟩
  rw [hs]
  have HS := Lib.hid hs
  clear hs
  have h64 : (64 : Int) = ((64 : Nat) : Int) := rfl
  clear h64
  go_enter Tryd.func32, Tryd.ntmps32
  go_wp2
  go_loop [0, 1, 5] (fun x y i => ∃ a b k : Nat, x = .int .u64 a ∧ y = .int .u64 b ∧ i = .int .i64 k ∧ a < 18446744073709551616 ∧ b < 18446744073709551616 ∧ k ≤ 64 ∧ 2 ^ k ∣ b ∧ Hid ((a + b) % 18446744073709551616 = s)) (fun _ _ i => 64 - (intOf i).toNat)
  case atStart => exact ⟨a, b, 0, rfl, rfl, rfl, ha, hb, by omega, by simp, HS⟩
  case round =>
    clear HS
    obtain ⟨a, b, k, rfl, rfl, rfl, ha, hb, hk, hd, hs⟩ := hrel
    by_cases hlt : k < 64
    · have fa := and_u64 a b ha hb
      have fx := bits_xor_u64_nat a b ha hb
      obtain ⟨p1, p2, p3⟩ := plus_round a b k s hlt ha hb hd hs.out
      clear hd hs
      have P3 := Lib.hid p3
      clear p3
      go_wp2
      go_round
      case rel => exact ⟨a ^^^ b, (a &&& b) * 2 % 18446744073709551616, k + 1, rfl, by rw [IntKind.wrap_u64]; simp, by go_num, p1, by omega, by omega, p2, P3⟩
      case measure => simp [intOf]; omega
    · obtain rfl : k = 64 := by omega
      obtain ⟨c, hc⟩ := hd
      obtain rfl : b = 0 := by omega
      have e : s = a := by have := hs.out; omega
      subst e
      clear hs hc
      go_wp2
      go_ret
      exact ⟨rfl, rfl⟩

theorem plus_r (a b r : Nat) (ha : a < 18446744073709551616) (hb : b < 18446744073709551616) (hr : (a + b) % 18446744073709551616 = r) (w : World) :
    Calls Tryd.prog 32 #[.int .u64 a, .int .u64 b] w fun e w' => e = .returned (.int .u64 r) ∧ w = w' := by
  subst hr
  exact plus_any a b ha hb w
theorem xor_ones (b : Nat) (hb : b < 18446744073709551616) : Go.bits .xor .u64 IntKind.u64.max (b : Int) = ((18446744073709551615 - b : Nat) : Int) := by
  have e : IntKind.u64.max = ((18446744073709551615 : Nat) : Int) := rfl
  rw [e, bits_xor_u64_nat _ _ (by omega) hb]
  have h := xor_and_nat 64 18446744073709551615 b (by omega) (by omega)
  have h2 : 18446744073709551615 &&& b = b := by
    rw [Nat.and_comm, show 18446744073709551615 = 2 ^ 64 - 1 from rfl, Nat.and_two_pow_sub_one_eq_mod, Nat.mod_eq_of_lt (by omega)]
  omega

set_option maxHeartbeats 1000000 in
set_option maxRecDepth 1000000 in
theorem minus_r (a b r : Nat) (ha : a < 18446744073709551616) (hb : b < 18446744073709551616) (hr : (a + (18446744073709551616 - b)) % 18446744073709551616 = r) (w : World) :
    Calls Tryd.prog 30 #[.int .u64 a, .int .u64 b] w fun e w' => e = .returned (.int .u64 r) ∧ w = w' := by
  have HR := Lib.hid hr
  clear hr
  obtain ⟨c, hc, hx⟩ : ∃ c : Nat, c = 18446744073709551615 - b ∧ Go.bits .xor .u64 IntKind.u64.max (b : Int) = (c : Int) := ⟨_, rfl, xor_ones b hb⟩
  obtain ⟨d, hd⟩ : ∃ d : Nat, (c + 1) % 18446744073709551616 = d := ⟨_, rfl⟩
  have HC := Lib.hid hc
  have HD := Lib.hid hd
  clear hc hd
  go_enter Tryd.func30, Tryd.ntmps30
  go_wp2_with fail
  refine (plus_r c 1 d (by have := HC.out; omega) (by omega) HD.out _).mono ?_
  rintro e w' ⟨rfl, rfl⟩
  go_wp2_with fail
  refine (plus_r a d r ha (by have := HD.out; omega) (by have := HC.out; have := HD.out; have := HR.out; omega) _).mono ?_
  rintro e w' ⟨rfl, rfl⟩
  go_wp2
  go_ret
  exact ⟨rfl, rfl⟩

theorem times_step (a b m k : Nat) (hs : a * (b % 2 ^ k) % 18446744073709551616 = m) :
    a * (b % 2 ^ (k + 1)) % 18446744073709551616 = if b / 2 ^ k % 2 = 1 then (m + a * 2 ^ k % 18446744073709551616) % 18446744073709551616 else m := by
  rw [Nat.mod_pow_succ]
  split
  · rename_i h
    rw [h, Nat.mul_one, Nat.mul_add, ← hs]
    omega
  · rename_i h
    have : b / 2 ^ k % 2 = 0 := by omega
    rw [this, Nat.mul_zero, Nat.add_zero, hs]
theorem bit_of (b k : Nat) (hb : b < 18446744073709551616) : Go.bits .and .u64 ((b : Int) / 2 ^ k) 1 = ((b / 2 ^ k % 2 : Nat) : Int) := by
  have e : ((b : Int) / 2 ^ k) = ((b / 2 ^ k : Nat) : Int) := by
    rw [Int.natCast_ediv, Int.natCast_pow]; rfl
  have h1 : b / 2 ^ k < 18446744073709551616 := Nat.lt_of_le_of_lt (Nat.div_le_self _ _) hb
  have := and_u64 (b / 2 ^ k) 1 h1 (by omega)
  rw [e]
  rw [show ((1 : Int)) = ((1 : Nat) : Int) from rfl, this, Nat.and_one_is_mod]

set_option maxHeartbeats 1000000 in
set_option maxRecDepth 1000000 in
theorem times_r (a b r : Nat) (ha : a < 18446744073709551616) (hb : b < 18446744073709551616) (hr : (a * b) % 18446744073709551616 = r) (w : World) :
    Calls Tryd.prog 33 #[.int .u64 a, .int .u64 b] w fun e w' => e = .returned (.int .u64 r) ∧ w = w' := by
  have HR := Lib.hid hr
  clear hr
  go_enter Tryd.func33, Tryd.ntmps33
  go_wp2
  go_loop [5, 6] (fun n i => ∃ m k : Nat, n = .int .u64 m ∧ i = .int .i64 k ∧ m < 18446744073709551616 ∧ k ≤ 64 ∧ Hid (a * (b % 2 ^ k) % 18446744073709551616 = m)) (fun _ i => 64 - (intOf i).toNat)
  case atStart => exact ⟨0, 0, rfl, rfl, by omega, by omega, by show _ = _; rw [Nat.pow_zero, Nat.mod_one]; simp⟩
  case round =>
    obtain ⟨m, k, rfl, rfl, hm, hk, hs⟩ := hrel
    by_cases hlt : k < 64
    · have hst := times_step a b m k hs.out
      have hbit := bit_of b k hb
      obtain ⟨q, hq, hql⟩ : ∃ q : Nat, IntKind.u64.wrap ((a : Int) * 2 ^ k) = (q : Int) ∧ a * 2 ^ k % 18446744073709551616 = q := ⟨a * 2 ^ k % 18446744073709551616, by rw [IntKind.wrap_u64]; simp, rfl⟩
      by_cases h1 : b / 2 ^ k % 2 = 1
      · rw [if_pos h1, hql] at hst
        rw [h1] at hbit
        obtain ⟨m', hm'⟩ : ∃ m', (m + q) % 18446744073709551616 = m' := ⟨_, rfl⟩
        rw [hm'] at hst
        have HST := Lib.hid hst
        have HM := Lib.hid hm'
        have hqb : q < 18446744073709551616 := by omega
        clear hst hm' hs hql h1 HR
        go_wp2_with (go_at_call 32; refine (plus_r m q m' hm hqb HM.out _).mono ?_; rintro e w' ⟨rfl, rfl⟩)
        go_round
        case rel => exact ⟨m', k + 1, rfl, by go_num, by have := HM.out; omega, by omega, HST⟩
        case measure => simp [intOf]; omega
      · rw [if_neg h1] at hst
        have h0 : b / 2 ^ k % 2 = 0 := by omega
        rw [h0] at hbit
        have HST := Lib.hid hst
        clear hst hs hql h1 h0 HR
        go_wp2
        go_round
        case rel => exact ⟨m, k + 1, rfl, by go_num, hm, by omega, HST⟩
        case measure => simp [intOf]; omega
    · obtain rfl : k = 64 := by omega
      have e : r = m := by
        have h1 := hs.out
        rw [Nat.mod_eq_of_lt (show b < 2 ^ 64 by omega)] at h1
        have := HR.out
        omega
      subst e
      clear hs HR
      go_wp2
      go_ret
      exact ⟨rfl, rfl⟩

theorem or_bit (x e : Nat) (he : e < 2) (hx : 2 * x < 18446744073709551616) : Go.bits .or .u64 ((x : Int) * 2) (e : Int) = ((2 * x + e : Nat) : Int) := by
  have h := or_u64 (2 * x) e hx (by omega)
  have h2 : 2 * x ||| e = 2 * x + e := (Nat.two_pow_add_eq_or_of_lt (i := 1) (b := e) (by omega) x).symm
  rw [h2] at h
  rw [show ((x : Int) * 2) = ((2 * x : Nat) : Int) by omega, h]
theorem part_step (a b k n l : Nat) (h0 : 0 < b) (hn : n = a / 2 ^ (k + 1) / b) (hl : l = a / 2 ^ (k + 1) % b) :
    (b ≤ 2 * l + a / 2 ^ k % 2 → 2 * n + 1 = a / 2 ^ k / b ∧ 2 * l + a / 2 ^ k % 2 - b = a / 2 ^ k % b) ∧ (2 * l + a / 2 ^ k % 2 < b → 2 * n = a / 2 ^ k / b ∧ 2 * l + a / 2 ^ k % 2 = a / 2 ^ k % b) := by
  have e : a / 2 ^ (k + 1) = a / 2 ^ k / 2 := by rw [Nat.pow_succ, Nat.div_div_eq_div_mul]
  rw [e] at hn hl
  generalize a / 2 ^ k = A at *
  have h1 := Nat.div_add_mod (A / 2) b
  rw [← hn, ← hl] at h1
  have hlb : l < b := by rw [hl]; exact Nat.mod_lt _ h0
  have hA : A = b * (2 * n) + (2 * l + A % 2) := by
    have : b * (2 * n) = 2 * (b * n) := by rw [Nat.mul_left_comm]
    omega
  clear hn hl h1 e
  have he2 : A % 2 < 2 := by omega
  generalize A % 2 = e2 at *
  constructor
  · intro hge
    have := (Nat.div_mod_unique (a := A) (d := 2 * n + 1) (c := 2 * l + e2 - b) h0).mpr ⟨by rw [Nat.mul_add, Nat.mul_one]; omega, by omega⟩
    omega
  · intro hlt
    have := (Nat.div_mod_unique (a := A) (d := 2 * n) (c := 2 * l + e2) h0).mpr ⟨by omega, by omega⟩
    omega

set_option maxHeartbeats 2000000 in
set_option maxRecDepth 1000000 in
theorem parted_r (a b n' l' : Nat) (ha : a < 18446744073709551616) (hb : b < 18446744073709551616) (h0 : 0 < b) (hn' : n' = a / b) (hl' : l' = a % b) (w : World) :
    Calls Tryd.prog 35 #[.int .u64 a, .int .u64 b] w fun e w' => e = .returned (.tuple #[.int .u64 n', .int .u64 l']) ∧ w = w' := by
  have HR : Hid (n' = a / b ∧ l' = a % b) := ⟨hn', hl'⟩
  clear hn' hl'
  go_enter Tryd.func35, Tryd.ntmps35
  go_wp2
  go_loop [6, 7, 8] (fun x y i => ∃ n l k : Nat, x = .int .u64 n ∧ y = .int .u64 l ∧ i = .int .i64 ((k : Int) - 1) ∧ k ≤ 64 ∧ Hid (n = a / 2 ^ k / b ∧ l = a / 2 ^ k % b)) (fun _ _ i => (intOf i + 1).toNat)
  case atStart =>
    refine ⟨0, 0, 64, rfl, rfl, rfl, by omega, ?_⟩
    have : a / 2 ^ 64 = 0 := Nat.div_eq_of_lt (by omega)
    show _ ∧ _
    rw [this]
    simp
  case round =>
    obtain ⟨n, l, k, rfl, rfl, rfl, hk, hs⟩ := hrel
    by_cases hlt : 0 < k
    · obtain ⟨k, rfl⟩ : ∃ j, k = j + 1 := ⟨k - 1, by omega⟩
      have hlb : l < b := by rw [hs.out.2]; exact Nat.mod_lt _ h0
      have hn : n < 9223372036854775808 := by
        rw [hs.out.1]
        refine Nat.lt_of_le_of_lt (Nat.div_le_self _ _) ?_
        rw [Nat.pow_succ, ← Nat.div_div_eq_div_mul]
        have := Nat.div_le_self a (2 ^ k)
        omega
      obtain ⟨hge, hle⟩ := part_step a b k n l h0 hs.out.1 hs.out.2
      clear hs HR
      have hbit := bit_of a k ha
      obtain ⟨e, he, he2⟩ : ∃ e : Nat, a / 2 ^ k % 2 = e ∧ e < 2 := ⟨_, rfl, by omega⟩
      rw [he] at hbit hge hle
      clear he
      have hor1 : Go.bits .or .u64 ((n : Int) * 2) 1 = ((2 * n + 1 : Nat) : Int) := or_bit n 1 (by omega) (by omega)
      by_cases hh : 9223372036854775808 ≤ l
      · obtain ⟨t, ht⟩ : ∃ t, t = 2 * l + e - 18446744073709551616 := ⟨_, rfl⟩
        have hor : Go.bits .or .u64 (IntKind.u64.wrap ((l : Int) * 2)) (e : Int) = (t : Int) := by
          have := or_bit (l - 9223372036854775808) e he2 (by omega)
          rw [IntKind.wrap_u64, show ((l : Int) * 2 % 18446744073709551616) = (((l - 9223372036854775808 : Nat) : Int) * 2) by omega, this]
          omega
        have HG := Lib.hid (hge (by omega))
        have hw : IntKind.u64.wrap ((t : Int) - b) = ((2 * l + e - b : Nat) : Int) := by rw [IntKind.wrap_u64]; omega
        clear hge hle ht
        go_wp2
        go_round
        case rel => exact ⟨2 * n + 1, 2 * l + e - b, k, by first | rw [hor1] | exact congrArg (Value.int _) (by omega), by first | rw [hw] | exact congrArg (Value.int _) (by omega), rfl, by omega, HG⟩
        case measure => first | (simp [intOf]; done) | (simp [intOf]; omega)
      · have hor := or_bit l e he2 (by omega)
        obtain ⟨t, ht⟩ : ∃ t, 2 * l + e = t := ⟨_, rfl⟩
        rw [ht] at hor hge hle
        by_cases htb : b ≤ t
        · have HG := Lib.hid (hge htb)
          have hw : IntKind.u64.wrap ((t : Int) - b) = ((t - b : Nat) : Int) := by rw [IntKind.wrap_u64]; omega
          have htl : t < 18446744073709551616 := by omega
          clear hge hle ht
          go_wp2
          go_round
          case rel => exact ⟨2 * n + 1, t - b, k, by first | rw [hor1] | exact congrArg (Value.int _) (by omega), by first | rw [hw] | exact congrArg (Value.int _) (by omega), rfl, by omega, HG⟩
          case measure => first | (simp [intOf]; done) | (simp [intOf]; omega)
        · have HG := Lib.hid (hle (by omega))
          clear hge hle ht
          go_wp2
          go_round
          case rel => exact ⟨2 * n, t, k, by exact congrArg (Value.int _) (by omega), by first | rfl | exact congrArg (Value.int _) (by omega), rfl, by omega, HG⟩
          case measure => first | (simp [intOf]; done) | (simp [intOf]; omega)
    · obtain rfl : k = 0 := by omega
      obtain ⟨h1, h2⟩ := hs.out
      rw [Nat.pow_zero, Nat.div_one] at h1 h2
      obtain rfl : n = n' := by rw [h1, HR.out.1]
      obtain rfl : l = l' := by rw [h2, HR.out.2]
      clear h1 h2 hs HR
      go_wp2
      go_ret2
      exact ⟨rfl, rfl⟩

/-! ### size, signed, one -/
/-- A number's size, and whether it is below 0. -/
def sizeN (a : Int) : Nat := a.natAbs
theorem conv_u64 (a : Int) (ha : R a) : (IntKind.u64.wrap a) = ((a % 18446744073709551616).toNat : Int) := by rw [IntKind.wrap_u64]; omega

set_option maxHeartbeats 1000000 in
set_option maxRecDepth 1000000 in
theorem size_r (a : Int) (ha : R a) (k : Nat) (hk : k = a.natAbs) (w : World) :
    Calls Tryd.prog 34 #[.int .i64 a] w fun e w' => e = .returned (.tuple #[.int .u64 k, .bool (decide (a < 0))]) ∧ w = w' := by
  unfold R at ha
  obtain ⟨ha1, ha2⟩ := ha
  by_cases h : a < 0
  · obtain ⟨c, hc, hcv⟩ : ∃ c : Nat, IntKind.u64.wrap a = (c : Int) ∧ c = (a % 18446744073709551616).toNat := ⟨_, conv_u64 a ⟨ha1, ha2⟩, rfl⟩
    have HC := Lib.hid hcv
    have HK := Lib.hid hk
    clear hcv hk
    have hd : decide (a < 0) = true := by simpa using h
    rw [hd]
    go_enter Tryd.func34, Tryd.ntmps34
    go_wp2_with (go_at_call 30; refine (minus_r 0 c k (by omega) (by have := HC.out; omega) (by have := HC.out; have := HK.out; omega) _).mono ?_; rintro e w' ⟨rfl, rfl⟩)
    go_ret2
    exact ⟨rfl, rfl⟩
  · have hd : decide (a < 0) = false := by simpa using h
    have hw : IntKind.u64.wrap a = a := by rw [IntKind.wrap_u64]; omega
    obtain rfl : a = (k : Int) := by omega
    rw [hd]
    clear hk
    go_enter Tryd.func34, Tryd.ntmps34
    go_wp2
    go_ret2
    exact ⟨rfl, rfl⟩

set_option maxHeartbeats 1000000 in
set_option maxRecDepth 1000000 in
theorem signed_r (n : Nat) (b : Bool) (r : Int) (hn : n < 18446744073709551616) (hr : r = if b then wrap64 (-n) else wrap64 n) (w : World) :
    Calls Tryd.prog 36 #[.int .u64 n, .bool b] w fun e w' => e = .returned (.int .i64 r) ∧ w = w' := by
  cases b with
  | true =>
    obtain ⟨c, hc⟩ : ∃ c : Nat, (0 + (18446744073709551616 - n)) % 18446744073709551616 = c := ⟨_, rfl⟩
    have HC := Lib.hid hc
    have hw : wrap64 (c : Int) = r := by rw [hr]; simp only [if_true]; unfold wrap64; omega
    have hw2 : IntKind.i64.wrap (c : Int) = r := by rw [IntKind.wrap_i64]; unfold wrap64 at hw; omega
    clear hc hr
    go_enter Tryd.func36, Tryd.ntmps36
    go_wp2_with (go_at_call 30; refine (minus_r 0 n c (by omega) hn HC.out _).mono ?_; rintro e w' ⟨rfl, rfl⟩)
    go_ret
    first | exact ⟨rfl, rfl⟩ | (rw [hw]; exact ⟨rfl, rfl⟩)
  | false =>
    have hw : wrap64 (n : Int) = r := by rw [hr]; simp
    have hw2 : IntKind.i64.wrap (n : Int) = r := by rw [IntKind.wrap_i64]; unfold wrap64 at hw; omega
    clear hr
    go_enter Tryd.func36, Tryd.ntmps36
    go_wp2
    go_ret
    first | exact ⟨rfl, rfl⟩ | (rw [hw]; exact ⟨rfl, rfl⟩)

theorem one_any (x : Bool) (w : World) : Calls Tryd.prog 31 #[.bool x] w fun e w' => e = .returned (.int .i64 (flagI x)) ∧ w = w' := by
  cases x
  all_goals
    go_enter Tryd.func31, Tryd.ntmps31
    go_wp2
    go_ret
    exact ⟨rfl, rfl⟩
end Go.Proofs.YtohkafjfolojcaaDoor
