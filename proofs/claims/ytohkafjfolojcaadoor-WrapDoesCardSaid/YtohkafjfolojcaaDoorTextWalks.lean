/- The walk of WrapDigits: true for every input. -/
import Derived.Test.YtohkafjfolojcaaDoorWrap
import Derived.Test.YtohkafjfolojcaaDoorTextPure
import Derived.Laws.BytesArg
import Derived.Test.YtohkafjfolojcaaDoorWrapPure
import Derived.Lib.ItoaMem
namespace Go.Proofs.YtohkafjfolojcaaDoor
open Go.RowKit Go.Sort

theorem nefi (a : Int) : (a != a) = false := by simp
theorem hb_alloc {w0 w : World} (h : Hid (Below w0.heap.size w0 w)) (o : Obj) : Hid (Below w0.heap.size w0 (w.alloc o)) := Below.alloc h.out h.out.size o

/-- One byte as a text. -/
theorem conv_one (x : Int) (b : ByteArray) (hb : strOfNums [x] = b) (W : World) :
    (convert 34 9 (.slice (some ⟨W.heap.size, 0, none⟩) 1 1)).run Tryd.prog (W.alloc (.cells #[.int .u8 x] 5)) = .ok (.string b) (W.alloc (.cells #[.int .u8 x] 5)) := by
  subst hb
  refine run_convert_bytes_arg _ 34 5 Tryd.underlying34 Tryd.underlying5 W.heap.size 0 1 1 [x] rfl (fun i hi => ?_) 9 Tryd.underlying9
  obtain rfl : i = 0 := by omega
  simp

theorem text_s (n : Int) (s : ByteArray) (hs : (⟨(Lib.itoa n).toArray⟩ : ByteArray) = s) (h0 : -9223372036854775808 ≤ n) (h1 : n ≤ 9223372036854775807) (w : World) (ht : Tab w) :
    Calls Tryd.prog 26 #[.int .i64 n] w fun e w' => e = .returned (.string s) ∧ Below w.heap.size w w' := by
  subst hs
  exact text_any n h0 h1 w ht

set_option maxHeartbeats 4000000 in
set_option maxRecDepth 1000000 in
theorem digits_core (n d c : Int) (w : World) (ht : Tab w) (u : Nat) (hu : u ≤ 9223372036854775807) (hn : Go.bits .and .i64 n 9223372036854775807 = (u : Int)) (k : Nat) (hk : k < 10) (hd : d % 10 = k) (hd0 : 0 ≤ d) (hd1 : d ≤ 255) (hc0 : 0 ≤ c) (hc1 : c ≤ 255)
    (s b1 b2 : ByteArray) (hs : (⟨(Lib.itoa u).toArray⟩ : ByteArray) = s) (hb1 : strOfNums [48 + (k : Int)] = b1) (hb2 : strOfNums [c] = b2) (zs : s.size ≤ 30) (z1 : b1.size ≤ 1) (z2 : b2.size ≤ 1)
    (hp : parseN (s ++ b1) = if (u : Int) ≤ (9223372036854775807 - (k : Int)) / 10 ∧ (0 : Int) < u then (10 * (u : Int) + k, true) else (0, false))
    (hq : ¬ (48 ≤ c ∧ c ≤ 57) → parseN (s ++ b2) = (0, false) ∧ parseN (b2 ++ s) = (0, false)) :
    Calls Tryd.prog 9 #[.int .i64 n, .int .u8 d, .int .u8 c] w fun e w' => e = .returned (.bool true) ∧ Below w.heap.size w w' := by
  have HT := Lib.hid ht
  have HS := Lib.hid hs
  clear ht hs
  have HB := hb_start w
  have kc1 := conv_one _ _ hb1
  have kc2 := conv_one _ _ hb2
  clear hb1 hb2
  have hcc : (48 ≤ c ∧ c ≤ 57) ∨ c < 48 ∨ (48 ≤ c ∧ 57 < c) := by omega
  by_cases hf : (u : Int) ≤ (9223372036854775807 - (k : Int)) / 10
  · by_cases h0 : (0 : Int) < u
    · rw [if_pos ⟨hf, h0⟩] at hp
      have e1 := nefi (10 * (u : Int) + k)
      rcases hcc with ⟨c1, c2⟩ | c1 | ⟨c1, c2⟩
      · clear hq
        go_enter Tryd.func9, Tryd.ntmps9
        go_wp2_with (first | (go_at_call 12; refine (shown_any _ (Tab.at HT HB)).mono ?_; rintro e w' ⟨rfl, hb⟩; replace HB := hb_step HB hb; clear hb) | (go_at_call 26; refine (text_s _ _ HS.out (by omega) (by omega) _ (Tab.at HT HB)).mono ?_; rintro e w' ⟨rfl, hb⟩; replace HB := hb_step HB hb; clear hb) | (go_at_call 27; refine (parse_any _ _ (by rw [ByteArray.size_append]; omega)).mono ?_; rintro e w' ⟨rfl, hb⟩; replace HB := hb_step (hb_alloc HB _) hb; clear hb))
        go_ret
        exact ⟨rfl, HB.out⟩
      · obtain ⟨q1, q2⟩ := hq (by omega)
        clear hq
        go_enter Tryd.func9, Tryd.ntmps9
        go_wp2_with (first | (go_at_call 12; refine (shown_any _ (Tab.at HT HB)).mono ?_; rintro e w' ⟨rfl, hb⟩; replace HB := hb_step HB hb; clear hb) | (go_at_call 26; refine (text_s _ _ HS.out (by omega) (by omega) _ (Tab.at HT HB)).mono ?_; rintro e w' ⟨rfl, hb⟩; replace HB := hb_step HB hb; clear hb) | (go_at_call 27; refine (parse_any _ _ (by rw [ByteArray.size_append]; omega)).mono ?_; rintro e w' ⟨rfl, hb⟩; replace HB := hb_step (hb_alloc HB _) hb; clear hb))
        go_ret
        exact ⟨rfl, HB.out⟩
      · obtain ⟨q1, q2⟩ := hq (by omega)
        clear hq
        go_enter Tryd.func9, Tryd.ntmps9
        go_wp2_with (first | (go_at_call 12; refine (shown_any _ (Tab.at HT HB)).mono ?_; rintro e w' ⟨rfl, hb⟩; replace HB := hb_step HB hb; clear hb) | (go_at_call 26; refine (text_s _ _ HS.out (by omega) (by omega) _ (Tab.at HT HB)).mono ?_; rintro e w' ⟨rfl, hb⟩; replace HB := hb_step HB hb; clear hb) | (go_at_call 27; refine (parse_any _ _ (by rw [ByteArray.size_append]; omega)).mono ?_; rintro e w' ⟨rfl, hb⟩; replace HB := hb_step (hb_alloc HB _) hb; clear hb))
        go_ret
        exact ⟨rfl, HB.out⟩
    · rw [if_neg (fun h => h0 h.2)] at hp
      rcases hcc with ⟨c1, c2⟩ | c1 | ⟨c1, c2⟩
      · clear hq
        go_enter Tryd.func9, Tryd.ntmps9
        go_wp2_with (first | (go_at_call 12; refine (shown_any _ (Tab.at HT HB)).mono ?_; rintro e w' ⟨rfl, hb⟩; replace HB := hb_step HB hb; clear hb) | (go_at_call 26; refine (text_s _ _ HS.out (by omega) (by omega) _ (Tab.at HT HB)).mono ?_; rintro e w' ⟨rfl, hb⟩; replace HB := hb_step HB hb; clear hb) | (go_at_call 27; refine (parse_any _ _ (by rw [ByteArray.size_append]; omega)).mono ?_; rintro e w' ⟨rfl, hb⟩; replace HB := hb_step (hb_alloc HB _) hb; clear hb))
        go_ret
        exact ⟨rfl, HB.out⟩
      · obtain ⟨q1, q2⟩ := hq (by omega)
        clear hq
        go_enter Tryd.func9, Tryd.ntmps9
        go_wp2_with (first | (go_at_call 12; refine (shown_any _ (Tab.at HT HB)).mono ?_; rintro e w' ⟨rfl, hb⟩; replace HB := hb_step HB hb; clear hb) | (go_at_call 26; refine (text_s _ _ HS.out (by omega) (by omega) _ (Tab.at HT HB)).mono ?_; rintro e w' ⟨rfl, hb⟩; replace HB := hb_step HB hb; clear hb) | (go_at_call 27; refine (parse_any _ _ (by rw [ByteArray.size_append]; omega)).mono ?_; rintro e w' ⟨rfl, hb⟩; replace HB := hb_step (hb_alloc HB _) hb; clear hb))
        go_ret
        exact ⟨rfl, HB.out⟩
      · obtain ⟨q1, q2⟩ := hq (by omega)
        clear hq
        go_enter Tryd.func9, Tryd.ntmps9
        go_wp2_with (first | (go_at_call 12; refine (shown_any _ (Tab.at HT HB)).mono ?_; rintro e w' ⟨rfl, hb⟩; replace HB := hb_step HB hb; clear hb) | (go_at_call 26; refine (text_s _ _ HS.out (by omega) (by omega) _ (Tab.at HT HB)).mono ?_; rintro e w' ⟨rfl, hb⟩; replace HB := hb_step HB hb; clear hb) | (go_at_call 27; refine (parse_any _ _ (by rw [ByteArray.size_append]; omega)).mono ?_; rintro e w' ⟨rfl, hb⟩; replace HB := hb_step (hb_alloc HB _) hb; clear hb))
        go_ret
        exact ⟨rfl, HB.out⟩
  · rw [if_neg (fun h => hf h.1)] at hp
    rcases hcc with ⟨c1, c2⟩ | c1 | ⟨c1, c2⟩
    · clear hq
      go_enter Tryd.func9, Tryd.ntmps9
      go_wp2_with (first | (go_at_call 12; refine (shown_any _ (Tab.at HT HB)).mono ?_; rintro e w' ⟨rfl, hb⟩; replace HB := hb_step HB hb; clear hb) | (go_at_call 26; refine (text_s _ _ HS.out (by omega) (by omega) _ (Tab.at HT HB)).mono ?_; rintro e w' ⟨rfl, hb⟩; replace HB := hb_step HB hb; clear hb) | (go_at_call 27; refine (parse_any _ _ (by rw [ByteArray.size_append]; omega)).mono ?_; rintro e w' ⟨rfl, hb⟩; replace HB := hb_step (hb_alloc HB _) hb; clear hb))
      go_ret
      exact ⟨rfl, HB.out⟩
    · obtain ⟨q1, q2⟩ := hq (by omega)
      clear hq
      go_enter Tryd.func9, Tryd.ntmps9
      go_wp2_with (first | (go_at_call 12; refine (shown_any _ (Tab.at HT HB)).mono ?_; rintro e w' ⟨rfl, hb⟩; replace HB := hb_step HB hb; clear hb) | (go_at_call 26; refine (text_s _ _ HS.out (by omega) (by omega) _ (Tab.at HT HB)).mono ?_; rintro e w' ⟨rfl, hb⟩; replace HB := hb_step HB hb; clear hb) | (go_at_call 27; refine (parse_any _ _ (by rw [ByteArray.size_append]; omega)).mono ?_; rintro e w' ⟨rfl, hb⟩; replace HB := hb_step (hb_alloc HB _) hb; clear hb))
      go_ret
      exact ⟨rfl, HB.out⟩
    · obtain ⟨q1, q2⟩ := hq (by omega)
      clear hq
      go_enter Tryd.func9, Tryd.ntmps9
      go_wp2_with (first | (go_at_call 12; refine (shown_any _ (Tab.at HT HB)).mono ?_; rintro e w' ⟨rfl, hb⟩; replace HB := hb_step HB hb; clear hb) | (go_at_call 26; refine (text_s _ _ HS.out (by omega) (by omega) _ (Tab.at HT HB)).mono ?_; rintro e w' ⟨rfl, hb⟩; replace HB := hb_step HB hb; clear hb) | (go_at_call 27; refine (parse_any _ _ (by rw [ByteArray.size_append]; omega)).mono ?_; rintro e w' ⟨rfl, hb⟩; replace HB := hb_step (hb_alloc HB _) hb; clear hb))
      go_ret
      exact ⟨rfl, HB.out⟩

theorem and_most (n : Int) : ∃ u : Nat, u ≤ 9223372036854775807 ∧ Go.bits .and .i64 n 9223372036854775807 = (u : Int) := by
  refine ⟨(BitVec.ofInt 64 n).toNat % 9223372036854775808, by omega, ?_⟩
  have h := wAnd_nat n 9223372036854775807
  have h1 : (BitVec.ofInt 64 9223372036854775807).toNat = 2 ^ 63 - 1 := by decide
  rw [h1, Nat.and_two_pow_sub_one_eq_mod] at h
  have e : Go.bits .and .i64 n 9223372036854775807 = wAnd n 9223372036854775807 := rfl
  rw [e, h]
  unfold wrap64
  omega
theorem data_append (a b : ByteArray) : (a ++ b).data.toList = a.data.toList ++ b.data.toList := by
  rw [ByteArray.data_append, Array.toList_append]
theorem digits_walk (n d c : Int) (hd : 0 ≤ d ∧ d ≤ 255) (hc : 0 ≤ c ∧ c ≤ 255) (w : World) (ht : Tab w) :
    Calls Tryd.prog 9 #[.int .i64 n, .int .u8 d, .int .u8 c] w fun e w' => e = .returned (.bool true) ∧ Below w.heap.size w w' := by
  obtain ⟨u, hu, hn⟩ := and_most n
  obtain ⟨k, hk⟩ : ∃ k : Nat, d % 10 = (k : Int) := ⟨(d % 10).toNat, by omega⟩
  have hs : (⟨(Lib.itoa (u : Int)).toArray⟩ : ByteArray).data.toList = Lib.decDigits u := by rw [Lib.itoa_nonneg]
  have hb : ∀ x : Int, (strOfNums [x]).data.toList = [UInt8.ofNat x.toNat] := fun x => rfl
  have hk1 : (UInt8.ofNat (48 + (k : Int)).toNat).toNat = 48 + k := by rw [UInt8.toNat_ofNat']; omega
  have hc1 : ((UInt8.ofNat c.toNat).toNat : Int) = c := by rw [UInt8.toNat_ofNat']; omega
  refine digits_core n d c w ht u hu hn k (by omega) hk hd.1 hd.2 hc.1 hc.2 _ _ _ rfl rfl rfl ?_ ?_ ?_ ?_ ?_
  · have := Lib.itoa_length_le (u : Int) (by omega) (by omega)
    show (Lib.itoa (u : Int)).toArray.size ≤ 30
    simp only [List.size_toArray]; omega
  · rw [strOfNums_size]; simp
  · rw [strOfNums_size]; simp
  · rw [parseN_eq, data_append, hs, hb, parseL_digit u _ hu (by omega), hk1]
    have e : ((48 + k : Nat) : Int) - 48 = k := by omega
    rw [e]
  · intro h
    rw [parseN_eq, parseN_eq, data_append, data_append, hs, hb]
    exact ⟨parseL_other u _ hu (by omega), parseL_ahead _ _ (by omega)⟩
end Go.Proofs.YtohkafjfolojcaaDoor
