/- The document's answer: Of, Digits, Line. -/
import Derived.Test.YtbipfkbjdbdghaaDoorCodeLine
import Derived.Laws.BytesArg
import Derived.Lib.ItoaMem
namespace Go.Proofs.YtbipfkbjdbdghaaDoor
open Go.RowKit Go.Sort
set_option linter.unusedVariables false

/-- One byte as a text. -/
theorem conv_one (x : Int) (b : ByteArray) (hb : strOfNums [x] = b) (W : World) :
    (convert 43 9 (.slice (some ⟨W.heap.size, 0, none⟩) 1 1)).run Tryd.prog (W.alloc (.cells #[.int .u8 x] 5)) = .ok (.string b) (W.alloc (.cells #[.int .u8 x] 5)) := by
  subst hb
  refine run_convert_bytes_arg _ 43 5 Tryd.underlying43 Tryd.underlying5 W.heap.size 0 1 1 [x] rfl (fun i hi => ?_) 9 Tryd.underlying9
  obtain rfl : i = 0 := by omega
  simp

theorem bytes_ext {a b : ByteArray} (h : a.data.toList = b.data.toList) : a = b := by
  cases a; cases b; congr 1; exact Array.ext' h
theorem data_append (a b : ByteArray) : (a ++ b).data.toList = a.data.toList ++ b.data.toList := by
  rw [ByteArray.data_append, Array.toList_append]
theorem dec_step (q : Nat) : Lib.decDigits q = if q < 10 then [UInt8.ofNat (48 + q)] else Lib.decDigits (q / 10) ++ [UInt8.ofNat (48 + q % 10)] := by
  rw [Lib.decDigits]; split <;> simp_all

set_option maxHeartbeats 1000000 in
set_option maxRecDepth 1000000 in
theorem digits_pos : ∀ (f u : Nat), u < f → u ≤ 9223372036854775807 → ∀ (s : ByteArray), txt (u : Int) = s → ∀ w : World,
    Calls Tryd.prog 18 #[.int .i64 u] w fun e w' => e = .returned (.string s) ∧ Below w.heap.size w w' := by
  intro f
  induction f with
  | zero => intro u h; omega
  | succ f ih =>
    intro u hf hu s hs w
    have HB := hb_start w
    obtain ⟨d, hd⟩ : ∃ d : Nat, ((u : Int) % 10) = (d : Int) := ⟨u % 10, by omega⟩
    obtain ⟨b, hb⟩ : ∃ b, strOfNums [48 + (d : Int)] = b := ⟨_, rfl⟩
    have hb1 : b.size = 1 := by rw [← hb, strOfNums_size]; rfl
    have hbd : b.data.toList = [UInt8.ofNat (48 + u % 10)] := by
      rw [← hb, strOfNums_data]
      have : (48 + (d : Int)).toNat = 48 + u % 10 := by omega
      simp [this]
    have kc := conv_one _ _ hb
    have hd1 : (d : Int) ≤ 9 := by omega
    clear hb
    have hst : s.data.toList = Lib.decDigits u := by rw [← hs]; exact Lib.itoa_nonneg u
    by_cases h10 : u < 10
    · have hsb : b = s := by
        apply bytes_ext
        rw [hbd, hst, dec_step, if_pos h10, show u % 10 = u by omega]
      have HSB := Lib.hid hsb
      clear hsb hst hbd hs
      go_enter Tryd.func18, Tryd.ntmps18
      go_wp2
      go_ret
      exact ⟨congrArg (fun x => Ending.returned (Value.string x)) HSB.out, (hb_alloc HB _).out⟩
    · have hsb : txt ((u / 10 : Nat) : Int) ++ b = s := by
        apply bytes_ext
        rw [data_append, hbd, hst, dec_step u, if_neg h10]
        exact congrArg (· ++ _) (Lib.itoa_nonneg _)
      obtain ⟨q, hq⟩ : ∃ q : Nat, u / 10 = q := ⟨_, rfl⟩
      have hq1 : (u : Int) / 10 = (q : Int) := by omega
      have HR := Lib.hid (ih q (by omega) (by omega) _ rfl)
      have hz : (txt (q : Int)).size ≤ 30 := by
        have := Lib.itoa_length_le (q : Int) (by omega) (by omega)
        show (Lib.itoa (q : Int)).toArray.size ≤ 30
        simp only [List.size_toArray]; omega
      rw [hq] at hsb
      obtain ⟨t, ht⟩ : ∃ t, txt (q : Int) = t := ⟨_, rfl⟩
      rw [ht] at hsb HR hz
      have HSB := Lib.hid hsb
      clear hsb hst hbd hs ht hq ih
      go_enter Tryd.func18, Tryd.ntmps18
      go_wp2_with (go_at_call 18; refine (HR.out _).mono ?_; rintro e w' ⟨rfl, hb⟩; have HB2 := hb_step (hb_alloc HB _) hb; clear HB; have HB := HB2; clear HB2; clear hb)
      go_ret
      exact ⟨congrArg (fun x => Ending.returned (Value.string x)) HSB.out, HB.out⟩

set_option maxHeartbeats 1000000 in
set_option maxRecDepth 1000000 in
theorem digits_neg : ∀ (f u : Nat), u < f → 0 < u → u ≤ 9223372036854775808 → ∀ (s : ByteArray), txt (-(u : Int)) = s → ∀ w : World,
    Calls Tryd.prog 18 #[.int .i64 (-(u : Int))] w fun e w' => e = .returned (.string s) ∧ Below w.heap.size w w' := by
  intro f
  induction f with
  | zero => intro u h; omega
  | succ f ih =>
    intro u hf h0 hu s hs w
    have HB := hb_start w
    obtain ⟨d, hd⟩ : ∃ d : Nat, u % 10 = d := ⟨u % 10, by omega⟩
    obtain ⟨q, hq⟩ : ∃ q : Nat, u / 10 = q := ⟨_, rfl⟩
    have hm : Int.tmod (-(u : Int)) 10 = -(d : Int) := by rw [Int.neg_tmod, Int.tmod_eq_emod_of_nonneg (by omega)]; omega
    have hqq : Int.tdiv (-(u : Int)) 10 = -(q : Int) := by rw [Int.neg_tdiv, Int.tdiv_eq_ediv_of_nonneg (by omega)]; omega
    obtain ⟨b, hb⟩ : ∃ b, strOfNums [48 + (d : Int)] = b := ⟨_, rfl⟩
    have hb1 : b.size = 1 := by rw [← hb, strOfNums_size]; rfl
    have hbd : b.data.toList = [UInt8.ofNat (48 + u % 10)] := by
      rw [← hb, strOfNums_data]
      have : (48 + (d : Int)).toNat = 48 + u % 10 := by omega
      simp [this]
    have kc := conv_one _ _ hb
    have hd1 : (d : Int) ≤ 9 := by omega
    obtain ⟨n, hn⟩ : ∃ n : Int, n = -(u : Int) := ⟨_, rfl⟩
    have e48 : (48 : Int) - -(d : Int) = 48 + d := by omega
    have hst : s.data.toList = 45 :: Lib.decDigits u := by
      rw [← hs]; show (Lib.itoa _) = _; unfold Lib.itoa; rw [if_pos (by omega)]
      have : (-(u : Int)).natAbs = u := by omega
      rw [this]
    clear hb
    by_cases h10 : u < 10
    · have hsb : (⟨#[45]⟩ : ByteArray) ++ b = s := by
        apply bytes_ext
        rw [data_append, hbd, hst, dec_step, if_pos h10, show u % 10 = u by omega]; rfl
      have HSB := Lib.hid hsb
      have hlt : n < 0 := by omega
      have hgt : -10 < n := by omega
      rw [← hn] at hm hqq ⊢
      clear hsb hst hbd hs hn hd hq ih
      go_enter Tryd.func18, Tryd.ntmps18
      go_wp2
      go_ret
      exact ⟨congrArg (fun x => Ending.returned (Value.string x)) HSB.out, (hb_alloc HB _).out⟩
    · have hsb : txt (-((u / 10 : Nat) : Int)) ++ b = s := by
        apply bytes_ext
        rw [data_append, hbd, hst, dec_step u, if_neg h10]
        have e1 : (txt (-((u / 10 : Nat) : Int))).data.toList = 45 :: Lib.decDigits (u / 10) := by
          show (Lib.itoa _) = _; unfold Lib.itoa; rw [if_pos (by omega)]
          have : (-((u / 10 : Nat) : Int)).natAbs = u / 10 := by omega
          rw [this]
        rw [e1]; rfl
      have HR := Lib.hid (ih q (by omega) (by omega) (by omega) _ rfl)
      have hz : (txt (-(q : Int))).size ≤ 30 := by
        have := Lib.itoa_length_le (-(q : Int)) (by omega) (by omega)
        show (Lib.itoa (-(q : Int))).toArray.size ≤ 30
        simp only [List.size_toArray]; omega
      rw [hq] at hsb
      obtain ⟨t, ht⟩ : ∃ t, txt (-(q : Int)) = t := ⟨_, rfl⟩
      rw [ht] at hsb HR hz
      have HSB := Lib.hid hsb
      have hlt : n < 0 := by omega
      have hgt : n ≤ -10 := by omega
      have hqb : (q : Int) ≤ 922337203685477580 := by omega
      rw [← hn] at hm hqq ⊢
      clear hsb hst hbd hs ht hn hd hq ih
      go_enter Tryd.func18, Tryd.ntmps18
      go_wp2_with (go_at_call 18; refine (HR.out _).mono ?_; rintro e w' ⟨rfl, hb⟩; have HB2 := hb_step (hb_alloc HB _) hb; clear HB; have HB := HB2; clear HB2; clear hb)
      go_ret
      exact ⟨congrArg (fun x => Ending.returned (Value.string x)) HSB.out, HB.out⟩

theorem digits_r (n : Int) (hn : R n) (s : ByteArray) (hs : txt n = s) (w : World) :
    Calls Tryd.prog 18 #[.int .i64 n] w fun e w' => e = .returned (.string s) ∧ Below w.heap.size w w' := by
  unfold R at hn
  by_cases h : n < 0
  · have e : n = -(n.natAbs : Int) := by omega
    rw [e] at hs ⊢
    exact digits_neg (n.natAbs + 1) n.natAbs (by omega) (by omega) (by omega) s hs w
  · have e : n = (n.natAbs : Int) := by omega
    rw [e] at hs ⊢
    exact digits_pos (n.natAbs + 1) n.natAbs (by omega) (by omega) s hs w
end Go.Proofs.YtbipfkbjdbdghaaDoor
