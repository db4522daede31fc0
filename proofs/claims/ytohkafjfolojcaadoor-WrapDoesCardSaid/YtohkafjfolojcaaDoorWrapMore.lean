/- The walks of WrapTexts and WrapDoes: true for every input. -/
import Derived.Test.YtohkafjfolojcaaDoorRefText
import Derived.Test.YtohkafjfolojcaaDoorRefDo
namespace Go.Proofs.YtohkafjfolojcaaDoor
open Go.RowKit Go.Sort
set_option linter.unusedVariables false
theorem R_lo {a : Int} (h : R a) : -9223372036854775808 ≤ a := And.left h
theorem R_hi {a : Int} (h : R a) : a ≤ 9223372036854775807 := And.right h

set_option maxHeartbeats 4000000 in
set_option maxRecDepth 1000000 in
theorem texts_core (n : Int) (s s' t : ByteArray) (w : World) (ht : Tab w) (hn : R n) (hs : s.size ≤ 140737488351232) (a : Int) (b : Bool) (e : Int) (f : Bool)
    (hs' : s.extract 0 (min (s.size : Int) 100).toNat = s') (hz : s'.size ≤ 100) (hp : parseN s' = (a, b)) (hpl : parseL s'.data.toList = (a, b)) (hT : (⟨(Lib.itoa n).toArray⟩ : ByteArray) = t) (hTL : t.data.toList = Lib.itoa n) (htz : t.size ≤ 30) (hpt : parseN t = (e, f)) (hf : (0 ≤ n ∧ f = true ∧ e = n) ∨ (n < 0 ∧ f = false ∧ e = 0))
    (hba : b = true → R a ∧ (⟨(Lib.itoa a).toArray⟩ : ByteArray) = s') :
    Calls Tryd.prog 4 #[.int .i64 n, .string s] w fun e w' => e = .returned (.bool true) ∧ Below w.heap.size w w' := by
  have HT := Lib.hid ht
  have HN := Lib.hid hn
  have HTT := Lib.hid hT
  have HTL := Lib.hid hTL
  have HP := Lib.hid hp
  have HPL := Lib.hid hpl
  have HPT := Lib.hid hpt
  clear ht hn hT hTL hp hpl hpt
  have HB := hb_start w
  have HA : Hid (R a ∧ (⟨(Lib.itoa a).toArray⟩ : ByteArray) = s') ∨ b = false := by
    cases b with
    | true => exact .inl (hba rfl)
    | false => exact .inr rfl
  clear hba
  rcases HA with HA | HA
  · cases b with
    | true =>
      rcases hf with ⟨h1, rfl, rfl⟩ | ⟨h1, rfl, rfl⟩
      · go_enter Tryd.func4, Tryd.ntmps4
        go_wp2_with (first | (go_at_call 12; refine (shown_any _ (Tab.at HT HB)).mono ?_; rintro e w' ⟨rfl, hb⟩; replace HB := hb_step HB hb; clear hb) | (go_at_call 26; (first | (with_reducible refine (text_s _ t HTT.out (R_lo HN.out) (R_hi HN.out) _ (Tab.at HT HB)).mono ?_) | (with_reducible refine (text_s a s' HA.out.2 (R_lo HA.out.1) (R_hi HA.out.1) _ (Tab.at HT HB)).mono ?_)); rintro e w' ⟨rfl, hb⟩; replace HB := hb_step HB hb; clear hb) | (go_at_call 27; (first | (with_reducible refine (parse_of s' _ _ HP.out _ (by omega)).mono ?_) | (with_reducible refine (parse_of t _ _ HPT.out _ (by omega)).mono ?_)); rintro e w' ⟨rfl, hb⟩; replace HB := hb_step HB hb; clear hb) | (go_at_call 28; refine (refparse_r s' _ _ HPL.out (by omega) _).mono ?_; rintro e w' ⟨rfl, hb⟩; replace HB := hb_step HB hb; clear hb) | (go_at_call 29; refine (reftext_r _ HN.out t HTL.out _).mono ?_; rintro e w' ⟨rfl, hb⟩; replace HB := hb_step HB hb; clear hb))
        go_ret
        exact ⟨rfl, HB.out⟩
      · go_enter Tryd.func4, Tryd.ntmps4
        go_wp2_with (first | (go_at_call 12; refine (shown_any _ (Tab.at HT HB)).mono ?_; rintro e w' ⟨rfl, hb⟩; replace HB := hb_step HB hb; clear hb) | (go_at_call 26; (first | (with_reducible refine (text_s _ t HTT.out (R_lo HN.out) (R_hi HN.out) _ (Tab.at HT HB)).mono ?_) | (with_reducible refine (text_s a s' HA.out.2 (R_lo HA.out.1) (R_hi HA.out.1) _ (Tab.at HT HB)).mono ?_)); rintro e w' ⟨rfl, hb⟩; replace HB := hb_step HB hb; clear hb) | (go_at_call 27; (first | (with_reducible refine (parse_of s' _ _ HP.out _ (by omega)).mono ?_) | (with_reducible refine (parse_of t _ _ HPT.out _ (by omega)).mono ?_)); rintro e w' ⟨rfl, hb⟩; replace HB := hb_step HB hb; clear hb) | (go_at_call 28; refine (refparse_r s' _ _ HPL.out (by omega) _).mono ?_; rintro e w' ⟨rfl, hb⟩; replace HB := hb_step HB hb; clear hb) | (go_at_call 29; refine (reftext_r _ HN.out t HTL.out _).mono ?_; rintro e w' ⟨rfl, hb⟩; replace HB := hb_step HB hb; clear hb))
        go_ret
        exact ⟨rfl, HB.out⟩
    | false =>
      have HA := HA
      rcases hf with ⟨h1, rfl, rfl⟩ | ⟨h1, rfl, rfl⟩
      · go_enter Tryd.func4, Tryd.ntmps4
        go_wp2_with (first | (go_at_call 12; refine (shown_any _ (Tab.at HT HB)).mono ?_; rintro e w' ⟨rfl, hb⟩; replace HB := hb_step HB hb; clear hb) | (go_at_call 26; (first | (with_reducible refine (text_s _ t HTT.out (R_lo HN.out) (R_hi HN.out) _ (Tab.at HT HB)).mono ?_) | (with_reducible refine (text_s a s' HA.out.2 (R_lo HA.out.1) (R_hi HA.out.1) _ (Tab.at HT HB)).mono ?_)); rintro e w' ⟨rfl, hb⟩; replace HB := hb_step HB hb; clear hb) | (go_at_call 27; (first | (with_reducible refine (parse_of s' _ _ HP.out _ (by omega)).mono ?_) | (with_reducible refine (parse_of t _ _ HPT.out _ (by omega)).mono ?_)); rintro e w' ⟨rfl, hb⟩; replace HB := hb_step HB hb; clear hb) | (go_at_call 28; refine (refparse_r s' _ _ HPL.out (by omega) _).mono ?_; rintro e w' ⟨rfl, hb⟩; replace HB := hb_step HB hb; clear hb) | (go_at_call 29; refine (reftext_r _ HN.out t HTL.out _).mono ?_; rintro e w' ⟨rfl, hb⟩; replace HB := hb_step HB hb; clear hb))
        go_ret
        exact ⟨rfl, HB.out⟩
      · go_enter Tryd.func4, Tryd.ntmps4
        go_wp2_with (first | (go_at_call 12; refine (shown_any _ (Tab.at HT HB)).mono ?_; rintro e w' ⟨rfl, hb⟩; replace HB := hb_step HB hb; clear hb) | (go_at_call 26; (first | (with_reducible refine (text_s _ t HTT.out (R_lo HN.out) (R_hi HN.out) _ (Tab.at HT HB)).mono ?_) | (with_reducible refine (text_s a s' HA.out.2 (R_lo HA.out.1) (R_hi HA.out.1) _ (Tab.at HT HB)).mono ?_)); rintro e w' ⟨rfl, hb⟩; replace HB := hb_step HB hb; clear hb) | (go_at_call 27; (first | (with_reducible refine (parse_of s' _ _ HP.out _ (by omega)).mono ?_) | (with_reducible refine (parse_of t _ _ HPT.out _ (by omega)).mono ?_)); rintro e w' ⟨rfl, hb⟩; replace HB := hb_step HB hb; clear hb) | (go_at_call 28; refine (refparse_r s' _ _ HPL.out (by omega) _).mono ?_; rintro e w' ⟨rfl, hb⟩; replace HB := hb_step HB hb; clear hb) | (go_at_call 29; refine (reftext_r _ HN.out t HTL.out _).mono ?_; rintro e w' ⟨rfl, hb⟩; replace HB := hb_step HB hb; clear hb))
        go_ret
        exact ⟨rfl, HB.out⟩
  · obtain rfl := HA
    rcases hf with ⟨h1, rfl, rfl⟩ | ⟨h1, rfl, rfl⟩
    · go_enter Tryd.func4, Tryd.ntmps4
      go_wp2_with (first | (go_at_call 12; refine (shown_any _ (Tab.at HT HB)).mono ?_; rintro e w' ⟨rfl, hb⟩; replace HB := hb_step HB hb; clear hb) | (go_at_call 26; (first | (with_reducible refine (text_s _ t HTT.out (R_lo HN.out) (R_hi HN.out) _ (Tab.at HT HB)).mono ?_) | (with_reducible refine (text_s a s' HA.out.2 (R_lo HA.out.1) (R_hi HA.out.1) _ (Tab.at HT HB)).mono ?_)); rintro e w' ⟨rfl, hb⟩; replace HB := hb_step HB hb; clear hb) | (go_at_call 27; (first | (with_reducible refine (parse_of s' _ _ HP.out _ (by omega)).mono ?_) | (with_reducible refine (parse_of t _ _ HPT.out _ (by omega)).mono ?_)); rintro e w' ⟨rfl, hb⟩; replace HB := hb_step HB hb; clear hb) | (go_at_call 28; refine (refparse_r s' _ _ HPL.out (by omega) _).mono ?_; rintro e w' ⟨rfl, hb⟩; replace HB := hb_step HB hb; clear hb) | (go_at_call 29; refine (reftext_r _ HN.out t HTL.out _).mono ?_; rintro e w' ⟨rfl, hb⟩; replace HB := hb_step HB hb; clear hb))
      go_ret
      exact ⟨rfl, HB.out⟩
    · go_enter Tryd.func4, Tryd.ntmps4
      go_wp2_with (first | (go_at_call 12; refine (shown_any _ (Tab.at HT HB)).mono ?_; rintro e w' ⟨rfl, hb⟩; replace HB := hb_step HB hb; clear hb) | (go_at_call 26; (first | (with_reducible refine (text_s _ t HTT.out (R_lo HN.out) (R_hi HN.out) _ (Tab.at HT HB)).mono ?_) | (with_reducible refine (text_s a s' HA.out.2 (R_lo HA.out.1) (R_hi HA.out.1) _ (Tab.at HT HB)).mono ?_)); rintro e w' ⟨rfl, hb⟩; replace HB := hb_step HB hb; clear hb) | (go_at_call 27; (first | (with_reducible refine (parse_of s' _ _ HP.out _ (by omega)).mono ?_) | (with_reducible refine (parse_of t _ _ HPT.out _ (by omega)).mono ?_)); rintro e w' ⟨rfl, hb⟩; replace HB := hb_step HB hb; clear hb) | (go_at_call 28; refine (refparse_r s' _ _ HPL.out (by omega) _).mono ?_; rintro e w' ⟨rfl, hb⟩; replace HB := hb_step HB hb; clear hb) | (go_at_call 29; refine (reftext_r _ HN.out t HTL.out _).mono ?_; rintro e w' ⟨rfl, hb⟩; replace HB := hb_step HB hb; clear hb))
      go_ret
      exact ⟨rfl, HB.out⟩

theorem parseL_neg (n : Int) (h : n < 0) : parseL (Lib.itoa n) = (0, false) := by
  unfold Lib.itoa
  rw [if_pos h]
  exact parseL_ahead _ 45 (by decide)
theorem texts_walk (n : Int) (s : ByteArray) (hn : -9223372036854775808 ≤ n ∧ n ≤ 9223372036854775807) (hs : s.size ≤ 140737488351232) (w : World) (ht : Tab w) :
    Calls Tryd.prog 4 #[.int .i64 n, .string s] w fun e w' => e = .returned (.bool true) ∧ Below w.heap.size w w' := by
  cases hp : parseN (s.extract 0 (min (s.size : Int) 100).toNat) with
  | mk a b =>
    have hp2 := hp
    rw [parseN_eq] at hp2
    have hl := Lib.itoa_length_le n hn.1 hn.2
    refine texts_core n s _ _ w ht hn hs a b (if 0 ≤ n then n else 0) (decide (0 ≤ n)) rfl ?_ hp hp2 rfl rfl ?_ ?_ ?_ ?_
    · rw [ByteArray.size_extract]; omega
    · show (Lib.itoa n).toArray.size ≤ 30
      simp only [List.size_toArray]; omega
    · rw [parseN_eq]
      show parseL (Lib.itoa n) = _
      by_cases h : 0 ≤ n
      · obtain ⟨u, rfl⟩ : ∃ u : Nat, n = u := ⟨n.toNat, by omega⟩
        rw [Lib.itoa_nonneg, parseL_dec u (by omega), if_pos h, decide_eq_true h]
      · rw [parseL_neg n (by omega), if_neg h, decide_eq_false h]
    · by_cases h : 0 ≤ n
      · exact .inl ⟨h, decide_eq_true h, if_pos h⟩
      · exact .inr ⟨by omega, decide_eq_false h, if_neg h⟩
    · intro hb
      subst hb
      obtain ⟨h1, h2, h3⟩ := parseL_back _ a hp2
      refine ⟨⟨by omega, h2⟩, bytes_ext ?_⟩
      obtain ⟨u, rfl⟩ : ∃ u : Nat, a = u := ⟨a.toNat, by omega⟩
      rw [Lib.itoa_nonneg, h3]
      simp

theorem wDo_none_ (op a b : Int) (h : ¬ (6 ≤ op ∧ op ≤ 16)) : wDo op a b = (0, false) := by unfold wDo; repeat (first | rw [if_neg (by omega)] | rfl)

set_option maxHeartbeats 8000000 in
set_option maxRecDepth 1000000 in
theorem does_walk (op a b : Int) (ha : -9223372036854775808 ≤ a ∧ a ≤ 9223372036854775807) (hb : -9223372036854775808 ≤ b ∧ b ≤ 9223372036854775807) (w : World) (ht : Tab w) :
    Calls Tryd.prog 3 #[.int .i64 op, .int .i64 a, .int .i64 b] w fun e w' => e = .returned (.bool true) ∧ Below w.heap.size w w' := by
  have HT := Lib.hid ht
  have HRa : Hid (R a) := ha
  have HRb : Hid (R b) := hb
  clear ht ha hb
  have HB := hb_start w
  by_cases hop : 6 ≤ op ∧ op ≤ 16
  · have : op = 6 ∨ op = 7 ∨ op = 8 ∨ op = 9 ∨ op = 10 ∨ op = 11 ∨ op = 12 ∨ op = 13 ∨ op = 14 ∨ op = 15 ∨ op = 16 := by omega
    clear hop
    rcases this with rfl | rfl | rfl | rfl | rfl | rfl | rfl | rfl | rfl | rfl | rfl
    · have d1 : wDo 6 a b = (wNeg a, true) := rfl
      go_enter Tryd.func3, Tryd.ntmps3
      go_wp2_with (first | (go_at_call 12; refine (shown_any _ (Tab.at HT HB)).mono ?_; rintro e w' ⟨rfl, hb⟩; replace HB := hb_step HB hb; clear hb) | (go_at_call 15; refine (neg_any _ _).mono ?_; rintro e w' ⟨rfl, rfl⟩) | (go_at_call 16; refine (not_any _ _).mono ?_; rintro e w' ⟨rfl, rfl⟩) | (go_at_call 17; refine (add_any _ _ _).mono ?_; rintro e w' ⟨rfl, rfl⟩) | (go_at_call 18; refine (sub_any _ _ _).mono ?_; rintro e w' ⟨rfl, rfl⟩) | (go_at_call 19; refine (mul_any _ _ _).mono ?_; rintro e w' ⟨rfl, rfl⟩) | (go_at_call 22; refine (less_any _ _ _).mono ?_; rintro e w' ⟨rfl, rfl⟩) | (go_at_call 23; refine (same_any _ _ _).mono ?_; rintro e w' ⟨rfl, rfl⟩) | (go_at_call 24; refine (and_any _ _ _).mono ?_; rintro e w' ⟨rfl, rfl⟩) | (go_at_call 25; refine (or_any _ _ _).mono ?_; rintro e w' ⟨rfl, rfl⟩) | (go_at_call 20; refine (div_any _ _ _).mono ?_; rintro e w' ⟨rfl, rfl⟩) | (go_at_call 21; refine (mod_any _ _ _).mono ?_; rintro e w' ⟨rfl, rfl⟩) | (go_at_call 13; refine (do_any _ _ _ _).mono ?_; rintro e w' ⟨rfl, rfl⟩) | (go_at_call 14; refine (refdo_6 a b HRa.out HRb.out _).mono ?_; rintro e w' ⟨rfl, rfl⟩))
      go_ret
      exact ⟨rfl, HB.out⟩
    · have d1 : wDo 7 a b = (wNot a, true) := rfl
      go_enter Tryd.func3, Tryd.ntmps3
      go_wp2_with (first | (go_at_call 12; refine (shown_any _ (Tab.at HT HB)).mono ?_; rintro e w' ⟨rfl, hb⟩; replace HB := hb_step HB hb; clear hb) | (go_at_call 15; refine (neg_any _ _).mono ?_; rintro e w' ⟨rfl, rfl⟩) | (go_at_call 16; refine (not_any _ _).mono ?_; rintro e w' ⟨rfl, rfl⟩) | (go_at_call 17; refine (add_any _ _ _).mono ?_; rintro e w' ⟨rfl, rfl⟩) | (go_at_call 18; refine (sub_any _ _ _).mono ?_; rintro e w' ⟨rfl, rfl⟩) | (go_at_call 19; refine (mul_any _ _ _).mono ?_; rintro e w' ⟨rfl, rfl⟩) | (go_at_call 22; refine (less_any _ _ _).mono ?_; rintro e w' ⟨rfl, rfl⟩) | (go_at_call 23; refine (same_any _ _ _).mono ?_; rintro e w' ⟨rfl, rfl⟩) | (go_at_call 24; refine (and_any _ _ _).mono ?_; rintro e w' ⟨rfl, rfl⟩) | (go_at_call 25; refine (or_any _ _ _).mono ?_; rintro e w' ⟨rfl, rfl⟩) | (go_at_call 20; refine (div_any _ _ _).mono ?_; rintro e w' ⟨rfl, rfl⟩) | (go_at_call 21; refine (mod_any _ _ _).mono ?_; rintro e w' ⟨rfl, rfl⟩) | (go_at_call 13; refine (do_any _ _ _ _).mono ?_; rintro e w' ⟨rfl, rfl⟩) | (go_at_call 14; refine (refdo_7 a b HRa.out HRb.out _).mono ?_; rintro e w' ⟨rfl, rfl⟩))
      go_ret
      exact ⟨rfl, HB.out⟩
    · have d1 : wDo 8 a b = (wAdd a b, true) := rfl
      go_enter Tryd.func3, Tryd.ntmps3
      go_wp2_with (first | (go_at_call 12; refine (shown_any _ (Tab.at HT HB)).mono ?_; rintro e w' ⟨rfl, hb⟩; replace HB := hb_step HB hb; clear hb) | (go_at_call 15; refine (neg_any _ _).mono ?_; rintro e w' ⟨rfl, rfl⟩) | (go_at_call 16; refine (not_any _ _).mono ?_; rintro e w' ⟨rfl, rfl⟩) | (go_at_call 17; refine (add_any _ _ _).mono ?_; rintro e w' ⟨rfl, rfl⟩) | (go_at_call 18; refine (sub_any _ _ _).mono ?_; rintro e w' ⟨rfl, rfl⟩) | (go_at_call 19; refine (mul_any _ _ _).mono ?_; rintro e w' ⟨rfl, rfl⟩) | (go_at_call 22; refine (less_any _ _ _).mono ?_; rintro e w' ⟨rfl, rfl⟩) | (go_at_call 23; refine (same_any _ _ _).mono ?_; rintro e w' ⟨rfl, rfl⟩) | (go_at_call 24; refine (and_any _ _ _).mono ?_; rintro e w' ⟨rfl, rfl⟩) | (go_at_call 25; refine (or_any _ _ _).mono ?_; rintro e w' ⟨rfl, rfl⟩) | (go_at_call 20; refine (div_any _ _ _).mono ?_; rintro e w' ⟨rfl, rfl⟩) | (go_at_call 21; refine (mod_any _ _ _).mono ?_; rintro e w' ⟨rfl, rfl⟩) | (go_at_call 13; refine (do_any _ _ _ _).mono ?_; rintro e w' ⟨rfl, rfl⟩) | (go_at_call 14; refine (refdo_8 a b HRa.out HRb.out _).mono ?_; rintro e w' ⟨rfl, rfl⟩))
      go_ret
      exact ⟨rfl, HB.out⟩
    · have d1 : wDo 9 a b = (wSub a b, true) := rfl
      go_enter Tryd.func3, Tryd.ntmps3
      go_wp2_with (first | (go_at_call 12; refine (shown_any _ (Tab.at HT HB)).mono ?_; rintro e w' ⟨rfl, hb⟩; replace HB := hb_step HB hb; clear hb) | (go_at_call 15; refine (neg_any _ _).mono ?_; rintro e w' ⟨rfl, rfl⟩) | (go_at_call 16; refine (not_any _ _).mono ?_; rintro e w' ⟨rfl, rfl⟩) | (go_at_call 17; refine (add_any _ _ _).mono ?_; rintro e w' ⟨rfl, rfl⟩) | (go_at_call 18; refine (sub_any _ _ _).mono ?_; rintro e w' ⟨rfl, rfl⟩) | (go_at_call 19; refine (mul_any _ _ _).mono ?_; rintro e w' ⟨rfl, rfl⟩) | (go_at_call 22; refine (less_any _ _ _).mono ?_; rintro e w' ⟨rfl, rfl⟩) | (go_at_call 23; refine (same_any _ _ _).mono ?_; rintro e w' ⟨rfl, rfl⟩) | (go_at_call 24; refine (and_any _ _ _).mono ?_; rintro e w' ⟨rfl, rfl⟩) | (go_at_call 25; refine (or_any _ _ _).mono ?_; rintro e w' ⟨rfl, rfl⟩) | (go_at_call 20; refine (div_any _ _ _).mono ?_; rintro e w' ⟨rfl, rfl⟩) | (go_at_call 21; refine (mod_any _ _ _).mono ?_; rintro e w' ⟨rfl, rfl⟩) | (go_at_call 13; refine (do_any _ _ _ _).mono ?_; rintro e w' ⟨rfl, rfl⟩) | (go_at_call 14; refine (refdo_9 a b HRa.out HRb.out _).mono ?_; rintro e w' ⟨rfl, rfl⟩))
      go_ret
      exact ⟨rfl, HB.out⟩
    · have d1 : wDo 10 a b = (wMul a b, true) := rfl
      go_enter Tryd.func3, Tryd.ntmps3
      go_wp2_with (first | (go_at_call 12; refine (shown_any _ (Tab.at HT HB)).mono ?_; rintro e w' ⟨rfl, hb⟩; replace HB := hb_step HB hb; clear hb) | (go_at_call 15; refine (neg_any _ _).mono ?_; rintro e w' ⟨rfl, rfl⟩) | (go_at_call 16; refine (not_any _ _).mono ?_; rintro e w' ⟨rfl, rfl⟩) | (go_at_call 17; refine (add_any _ _ _).mono ?_; rintro e w' ⟨rfl, rfl⟩) | (go_at_call 18; refine (sub_any _ _ _).mono ?_; rintro e w' ⟨rfl, rfl⟩) | (go_at_call 19; refine (mul_any _ _ _).mono ?_; rintro e w' ⟨rfl, rfl⟩) | (go_at_call 22; refine (less_any _ _ _).mono ?_; rintro e w' ⟨rfl, rfl⟩) | (go_at_call 23; refine (same_any _ _ _).mono ?_; rintro e w' ⟨rfl, rfl⟩) | (go_at_call 24; refine (and_any _ _ _).mono ?_; rintro e w' ⟨rfl, rfl⟩) | (go_at_call 25; refine (or_any _ _ _).mono ?_; rintro e w' ⟨rfl, rfl⟩) | (go_at_call 20; refine (div_any _ _ _).mono ?_; rintro e w' ⟨rfl, rfl⟩) | (go_at_call 21; refine (mod_any _ _ _).mono ?_; rintro e w' ⟨rfl, rfl⟩) | (go_at_call 13; refine (do_any _ _ _ _).mono ?_; rintro e w' ⟨rfl, rfl⟩) | (go_at_call 14; refine (refdo_10 a b HRa.out HRb.out _).mono ?_; rintro e w' ⟨rfl, rfl⟩))
      go_ret
      exact ⟨rfl, HB.out⟩
    · by_cases h0 : b = 0
      · have d1 : wDo 11 a b = (0, false) := if_pos h0
        have d2 : wDiv a b = (0, false) := if_pos h0
        clear h0
        go_enter Tryd.func3, Tryd.ntmps3
        go_wp2_with (first | (go_at_call 12; refine (shown_any _ (Tab.at HT HB)).mono ?_; rintro e w' ⟨rfl, hb⟩; replace HB := hb_step HB hb; clear hb) | (go_at_call 15; refine (neg_any _ _).mono ?_; rintro e w' ⟨rfl, rfl⟩) | (go_at_call 16; refine (not_any _ _).mono ?_; rintro e w' ⟨rfl, rfl⟩) | (go_at_call 17; refine (add_any _ _ _).mono ?_; rintro e w' ⟨rfl, rfl⟩) | (go_at_call 18; refine (sub_any _ _ _).mono ?_; rintro e w' ⟨rfl, rfl⟩) | (go_at_call 19; refine (mul_any _ _ _).mono ?_; rintro e w' ⟨rfl, rfl⟩) | (go_at_call 22; refine (less_any _ _ _).mono ?_; rintro e w' ⟨rfl, rfl⟩) | (go_at_call 23; refine (same_any _ _ _).mono ?_; rintro e w' ⟨rfl, rfl⟩) | (go_at_call 24; refine (and_any _ _ _).mono ?_; rintro e w' ⟨rfl, rfl⟩) | (go_at_call 25; refine (or_any _ _ _).mono ?_; rintro e w' ⟨rfl, rfl⟩) | (go_at_call 20; refine (div_any _ _ _).mono ?_; rintro e w' ⟨rfl, rfl⟩) | (go_at_call 21; refine (mod_any _ _ _).mono ?_; rintro e w' ⟨rfl, rfl⟩) | (go_at_call 13; refine (do_any _ _ _ _).mono ?_; rintro e w' ⟨rfl, rfl⟩) | (go_at_call 14; refine (refdo_11 a b HRa.out HRb.out _).mono ?_; rintro e w' ⟨rfl, rfl⟩))
        go_ret
        exact ⟨rfl, HB.out⟩
      · have d1 : wDo 11 a b = (wrap64 (Int.tdiv a b), true) := if_neg h0
        have d2 : wDiv a b = (wrap64 (Int.tdiv a b), true) := if_neg h0
        clear h0
        go_enter Tryd.func3, Tryd.ntmps3
        go_wp2_with (first | (go_at_call 12; refine (shown_any _ (Tab.at HT HB)).mono ?_; rintro e w' ⟨rfl, hb⟩; replace HB := hb_step HB hb; clear hb) | (go_at_call 15; refine (neg_any _ _).mono ?_; rintro e w' ⟨rfl, rfl⟩) | (go_at_call 16; refine (not_any _ _).mono ?_; rintro e w' ⟨rfl, rfl⟩) | (go_at_call 17; refine (add_any _ _ _).mono ?_; rintro e w' ⟨rfl, rfl⟩) | (go_at_call 18; refine (sub_any _ _ _).mono ?_; rintro e w' ⟨rfl, rfl⟩) | (go_at_call 19; refine (mul_any _ _ _).mono ?_; rintro e w' ⟨rfl, rfl⟩) | (go_at_call 22; refine (less_any _ _ _).mono ?_; rintro e w' ⟨rfl, rfl⟩) | (go_at_call 23; refine (same_any _ _ _).mono ?_; rintro e w' ⟨rfl, rfl⟩) | (go_at_call 24; refine (and_any _ _ _).mono ?_; rintro e w' ⟨rfl, rfl⟩) | (go_at_call 25; refine (or_any _ _ _).mono ?_; rintro e w' ⟨rfl, rfl⟩) | (go_at_call 20; refine (div_any _ _ _).mono ?_; rintro e w' ⟨rfl, rfl⟩) | (go_at_call 21; refine (mod_any _ _ _).mono ?_; rintro e w' ⟨rfl, rfl⟩) | (go_at_call 13; refine (do_any _ _ _ _).mono ?_; rintro e w' ⟨rfl, rfl⟩) | (go_at_call 14; refine (refdo_11 a b HRa.out HRb.out _).mono ?_; rintro e w' ⟨rfl, rfl⟩))
        go_ret
        exact ⟨rfl, HB.out⟩
    · by_cases h0 : b = 0
      · have d1 : wDo 12 a b = (0, false) := if_pos h0
        have d2 : wMod a b = (0, false) := if_pos h0
        clear h0
        go_enter Tryd.func3, Tryd.ntmps3
        go_wp2_with (first | (go_at_call 12; refine (shown_any _ (Tab.at HT HB)).mono ?_; rintro e w' ⟨rfl, hb⟩; replace HB := hb_step HB hb; clear hb) | (go_at_call 15; refine (neg_any _ _).mono ?_; rintro e w' ⟨rfl, rfl⟩) | (go_at_call 16; refine (not_any _ _).mono ?_; rintro e w' ⟨rfl, rfl⟩) | (go_at_call 17; refine (add_any _ _ _).mono ?_; rintro e w' ⟨rfl, rfl⟩) | (go_at_call 18; refine (sub_any _ _ _).mono ?_; rintro e w' ⟨rfl, rfl⟩) | (go_at_call 19; refine (mul_any _ _ _).mono ?_; rintro e w' ⟨rfl, rfl⟩) | (go_at_call 22; refine (less_any _ _ _).mono ?_; rintro e w' ⟨rfl, rfl⟩) | (go_at_call 23; refine (same_any _ _ _).mono ?_; rintro e w' ⟨rfl, rfl⟩) | (go_at_call 24; refine (and_any _ _ _).mono ?_; rintro e w' ⟨rfl, rfl⟩) | (go_at_call 25; refine (or_any _ _ _).mono ?_; rintro e w' ⟨rfl, rfl⟩) | (go_at_call 20; refine (div_any _ _ _).mono ?_; rintro e w' ⟨rfl, rfl⟩) | (go_at_call 21; refine (mod_any _ _ _).mono ?_; rintro e w' ⟨rfl, rfl⟩) | (go_at_call 13; refine (do_any _ _ _ _).mono ?_; rintro e w' ⟨rfl, rfl⟩) | (go_at_call 14; refine (refdo_12 a b HRa.out HRb.out _).mono ?_; rintro e w' ⟨rfl, rfl⟩))
        go_ret
        exact ⟨rfl, HB.out⟩
      · have d1 : wDo 12 a b = (Int.tmod a b, true) := if_neg h0
        have d2 : wMod a b = (Int.tmod a b, true) := if_neg h0
        clear h0
        go_enter Tryd.func3, Tryd.ntmps3
        go_wp2_with (first | (go_at_call 12; refine (shown_any _ (Tab.at HT HB)).mono ?_; rintro e w' ⟨rfl, hb⟩; replace HB := hb_step HB hb; clear hb) | (go_at_call 15; refine (neg_any _ _).mono ?_; rintro e w' ⟨rfl, rfl⟩) | (go_at_call 16; refine (not_any _ _).mono ?_; rintro e w' ⟨rfl, rfl⟩) | (go_at_call 17; refine (add_any _ _ _).mono ?_; rintro e w' ⟨rfl, rfl⟩) | (go_at_call 18; refine (sub_any _ _ _).mono ?_; rintro e w' ⟨rfl, rfl⟩) | (go_at_call 19; refine (mul_any _ _ _).mono ?_; rintro e w' ⟨rfl, rfl⟩) | (go_at_call 22; refine (less_any _ _ _).mono ?_; rintro e w' ⟨rfl, rfl⟩) | (go_at_call 23; refine (same_any _ _ _).mono ?_; rintro e w' ⟨rfl, rfl⟩) | (go_at_call 24; refine (and_any _ _ _).mono ?_; rintro e w' ⟨rfl, rfl⟩) | (go_at_call 25; refine (or_any _ _ _).mono ?_; rintro e w' ⟨rfl, rfl⟩) | (go_at_call 20; refine (div_any _ _ _).mono ?_; rintro e w' ⟨rfl, rfl⟩) | (go_at_call 21; refine (mod_any _ _ _).mono ?_; rintro e w' ⟨rfl, rfl⟩) | (go_at_call 13; refine (do_any _ _ _ _).mono ?_; rintro e w' ⟨rfl, rfl⟩) | (go_at_call 14; refine (refdo_12 a b HRa.out HRb.out _).mono ?_; rintro e w' ⟨rfl, rfl⟩))
        go_ret
        exact ⟨rfl, HB.out⟩
    · have d1 : wDo 13 a b = (wLess a b, true) := rfl
      go_enter Tryd.func3, Tryd.ntmps3
      go_wp2_with (first | (go_at_call 12; refine (shown_any _ (Tab.at HT HB)).mono ?_; rintro e w' ⟨rfl, hb⟩; replace HB := hb_step HB hb; clear hb) | (go_at_call 15; refine (neg_any _ _).mono ?_; rintro e w' ⟨rfl, rfl⟩) | (go_at_call 16; refine (not_any _ _).mono ?_; rintro e w' ⟨rfl, rfl⟩) | (go_at_call 17; refine (add_any _ _ _).mono ?_; rintro e w' ⟨rfl, rfl⟩) | (go_at_call 18; refine (sub_any _ _ _).mono ?_; rintro e w' ⟨rfl, rfl⟩) | (go_at_call 19; refine (mul_any _ _ _).mono ?_; rintro e w' ⟨rfl, rfl⟩) | (go_at_call 22; refine (less_any _ _ _).mono ?_; rintro e w' ⟨rfl, rfl⟩) | (go_at_call 23; refine (same_any _ _ _).mono ?_; rintro e w' ⟨rfl, rfl⟩) | (go_at_call 24; refine (and_any _ _ _).mono ?_; rintro e w' ⟨rfl, rfl⟩) | (go_at_call 25; refine (or_any _ _ _).mono ?_; rintro e w' ⟨rfl, rfl⟩) | (go_at_call 20; refine (div_any _ _ _).mono ?_; rintro e w' ⟨rfl, rfl⟩) | (go_at_call 21; refine (mod_any _ _ _).mono ?_; rintro e w' ⟨rfl, rfl⟩) | (go_at_call 13; refine (do_any _ _ _ _).mono ?_; rintro e w' ⟨rfl, rfl⟩) | (go_at_call 14; refine (refdo_13 a b HRa.out HRb.out _).mono ?_; rintro e w' ⟨rfl, rfl⟩))
      go_ret
      exact ⟨rfl, HB.out⟩
    · have d1 : wDo 14 a b = (wSame a b, true) := rfl
      go_enter Tryd.func3, Tryd.ntmps3
      go_wp2_with (first | (go_at_call 12; refine (shown_any _ (Tab.at HT HB)).mono ?_; rintro e w' ⟨rfl, hb⟩; replace HB := hb_step HB hb; clear hb) | (go_at_call 15; refine (neg_any _ _).mono ?_; rintro e w' ⟨rfl, rfl⟩) | (go_at_call 16; refine (not_any _ _).mono ?_; rintro e w' ⟨rfl, rfl⟩) | (go_at_call 17; refine (add_any _ _ _).mono ?_; rintro e w' ⟨rfl, rfl⟩) | (go_at_call 18; refine (sub_any _ _ _).mono ?_; rintro e w' ⟨rfl, rfl⟩) | (go_at_call 19; refine (mul_any _ _ _).mono ?_; rintro e w' ⟨rfl, rfl⟩) | (go_at_call 22; refine (less_any _ _ _).mono ?_; rintro e w' ⟨rfl, rfl⟩) | (go_at_call 23; refine (same_any _ _ _).mono ?_; rintro e w' ⟨rfl, rfl⟩) | (go_at_call 24; refine (and_any _ _ _).mono ?_; rintro e w' ⟨rfl, rfl⟩) | (go_at_call 25; refine (or_any _ _ _).mono ?_; rintro e w' ⟨rfl, rfl⟩) | (go_at_call 20; refine (div_any _ _ _).mono ?_; rintro e w' ⟨rfl, rfl⟩) | (go_at_call 21; refine (mod_any _ _ _).mono ?_; rintro e w' ⟨rfl, rfl⟩) | (go_at_call 13; refine (do_any _ _ _ _).mono ?_; rintro e w' ⟨rfl, rfl⟩) | (go_at_call 14; refine (refdo_14 a b HRa.out HRb.out _).mono ?_; rintro e w' ⟨rfl, rfl⟩))
      go_ret
      exact ⟨rfl, HB.out⟩
    · have d1 : wDo 15 a b = (wAnd a b, true) := rfl
      go_enter Tryd.func3, Tryd.ntmps3
      go_wp2_with (first | (go_at_call 12; refine (shown_any _ (Tab.at HT HB)).mono ?_; rintro e w' ⟨rfl, hb⟩; replace HB := hb_step HB hb; clear hb) | (go_at_call 15; refine (neg_any _ _).mono ?_; rintro e w' ⟨rfl, rfl⟩) | (go_at_call 16; refine (not_any _ _).mono ?_; rintro e w' ⟨rfl, rfl⟩) | (go_at_call 17; refine (add_any _ _ _).mono ?_; rintro e w' ⟨rfl, rfl⟩) | (go_at_call 18; refine (sub_any _ _ _).mono ?_; rintro e w' ⟨rfl, rfl⟩) | (go_at_call 19; refine (mul_any _ _ _).mono ?_; rintro e w' ⟨rfl, rfl⟩) | (go_at_call 22; refine (less_any _ _ _).mono ?_; rintro e w' ⟨rfl, rfl⟩) | (go_at_call 23; refine (same_any _ _ _).mono ?_; rintro e w' ⟨rfl, rfl⟩) | (go_at_call 24; refine (and_any _ _ _).mono ?_; rintro e w' ⟨rfl, rfl⟩) | (go_at_call 25; refine (or_any _ _ _).mono ?_; rintro e w' ⟨rfl, rfl⟩) | (go_at_call 20; refine (div_any _ _ _).mono ?_; rintro e w' ⟨rfl, rfl⟩) | (go_at_call 21; refine (mod_any _ _ _).mono ?_; rintro e w' ⟨rfl, rfl⟩) | (go_at_call 13; refine (do_any _ _ _ _).mono ?_; rintro e w' ⟨rfl, rfl⟩) | (go_at_call 14; refine (refdo_15 a b HRa.out HRb.out _).mono ?_; rintro e w' ⟨rfl, rfl⟩))
      go_ret
      exact ⟨rfl, HB.out⟩
    · have d1 : wDo 16 a b = (wOr a b, true) := rfl
      go_enter Tryd.func3, Tryd.ntmps3
      go_wp2_with (first | (go_at_call 12; refine (shown_any _ (Tab.at HT HB)).mono ?_; rintro e w' ⟨rfl, hb⟩; replace HB := hb_step HB hb; clear hb) | (go_at_call 15; refine (neg_any _ _).mono ?_; rintro e w' ⟨rfl, rfl⟩) | (go_at_call 16; refine (not_any _ _).mono ?_; rintro e w' ⟨rfl, rfl⟩) | (go_at_call 17; refine (add_any _ _ _).mono ?_; rintro e w' ⟨rfl, rfl⟩) | (go_at_call 18; refine (sub_any _ _ _).mono ?_; rintro e w' ⟨rfl, rfl⟩) | (go_at_call 19; refine (mul_any _ _ _).mono ?_; rintro e w' ⟨rfl, rfl⟩) | (go_at_call 22; refine (less_any _ _ _).mono ?_; rintro e w' ⟨rfl, rfl⟩) | (go_at_call 23; refine (same_any _ _ _).mono ?_; rintro e w' ⟨rfl, rfl⟩) | (go_at_call 24; refine (and_any _ _ _).mono ?_; rintro e w' ⟨rfl, rfl⟩) | (go_at_call 25; refine (or_any _ _ _).mono ?_; rintro e w' ⟨rfl, rfl⟩) | (go_at_call 20; refine (div_any _ _ _).mono ?_; rintro e w' ⟨rfl, rfl⟩) | (go_at_call 21; refine (mod_any _ _ _).mono ?_; rintro e w' ⟨rfl, rfl⟩) | (go_at_call 13; refine (do_any _ _ _ _).mono ?_; rintro e w' ⟨rfl, rfl⟩) | (go_at_call 14; refine (refdo_16 a b HRa.out HRb.out _).mono ?_; rintro e w' ⟨rfl, rfl⟩))
      go_ret
      exact ⟨rfl, HB.out⟩
  · have d1 := wDo_none_ op a b hop
    have HO := Lib.hid hop
    have n6 : (op == 6) = false := by simp; omega
    have n7 : (op == 7) = false := by simp; omega
    have n8 : (op == 8) = false := by simp; omega
    have n9 : (op == 9) = false := by simp; omega
    have n10 : (op == 10) = false := by simp; omega
    have n11 : (op == 11) = false := by simp; omega
    have n12 : (op == 12) = false := by simp; omega
    have n13 : (op == 13) = false := by simp; omega
    have n14 : (op == 14) = false := by simp; omega
    have n15 : (op == 15) = false := by simp; omega
    have n16 : (op == 16) = false := by simp; omega
    clear hop
    go_enter Tryd.func3, Tryd.ntmps3
    go_wp2_with (first | (go_at_call 12; refine (shown_any _ (Tab.at HT HB)).mono ?_; rintro e w' ⟨rfl, hb⟩; replace HB := hb_step HB hb; clear hb) | (go_at_call 15; refine (neg_any _ _).mono ?_; rintro e w' ⟨rfl, rfl⟩) | (go_at_call 16; refine (not_any _ _).mono ?_; rintro e w' ⟨rfl, rfl⟩) | (go_at_call 17; refine (add_any _ _ _).mono ?_; rintro e w' ⟨rfl, rfl⟩) | (go_at_call 18; refine (sub_any _ _ _).mono ?_; rintro e w' ⟨rfl, rfl⟩) | (go_at_call 19; refine (mul_any _ _ _).mono ?_; rintro e w' ⟨rfl, rfl⟩) | (go_at_call 22; refine (less_any _ _ _).mono ?_; rintro e w' ⟨rfl, rfl⟩) | (go_at_call 23; refine (same_any _ _ _).mono ?_; rintro e w' ⟨rfl, rfl⟩) | (go_at_call 24; refine (and_any _ _ _).mono ?_; rintro e w' ⟨rfl, rfl⟩) | (go_at_call 25; refine (or_any _ _ _).mono ?_; rintro e w' ⟨rfl, rfl⟩) | (go_at_call 20; refine (div_any _ _ _).mono ?_; rintro e w' ⟨rfl, rfl⟩) | (go_at_call 21; refine (mod_any _ _ _).mono ?_; rintro e w' ⟨rfl, rfl⟩) | (go_at_call 13; refine (do_any _ _ _ _).mono ?_; rintro e w' ⟨rfl, rfl⟩) | (go_at_call 14; refine (refdo_none op a b HO.out _).mono ?_; rintro e w' ⟨rfl, rfl⟩))
    go_ret
    exact ⟨rfl, HB.out⟩
end Go.Proofs.YtohkafjfolojcaaDoor
