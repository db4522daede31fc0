/- The reference's Text and Parse are the decimal text of a number, and wrap's Parse. -/
import Derived.Test.YtohkafjfolojcaaDoorRefWalks
import Derived.Test.YtohkafjfolojcaaDoorTextWalks
namespace Go.Proofs.YtohkafjfolojcaaDoor
open Go.RowKit Go.Sort
set_option linter.unusedVariables false

/-- Where the loop of Text stands: j digits are told. -/
def TextAt (k0 q j : Nat) (l : List UInt8) : Prop := (j = 0 ∧ l = [] ∧ q = k0) ∨ (0 < j ∧ 0 < q ∧ Lib.decDigits k0 = Lib.decDigits q ++ l) ∨ (0 < j ∧ q = 0 ∧ Lib.decDigits k0 = l)
theorem textAt_next (k0 q j : Nat) (l : List UInt8) (h : TextAt k0 q j l) (hgo : j = 0 ∨ 0 < q) : TextAt k0 (q / 10) (j + 1) (UInt8.ofNat (48 + q % 10) :: l) := by
  have hd : ∀ q : Nat, Lib.decDigits q = if q < 10 then [UInt8.ofNat (48 + q)] else Lib.decDigits (q / 10) ++ [UInt8.ofNat (48 + q % 10)] := fun q => by
    rw [Lib.decDigits]; split <;> simp_all
  have key : Lib.decDigits k0 = Lib.decDigits q ++ l → TextAt k0 (q / 10) (j + 1) (UInt8.ofNat (48 + q % 10) :: l) := by
    intro he
    rw [hd q] at he
    by_cases hq : q < 10
    · rw [if_pos hq] at he
      refine .inr (.inr ⟨by omega, by omega, ?_⟩)
      rw [he, show q % 10 = q by omega]; rfl
    · rw [if_neg hq] at he
      exact .inr (.inl ⟨by omega, by omega, by rw [he]; simp⟩)
  rcases h with ⟨h1, h2, h3⟩ | ⟨h1, h2, h3⟩ | ⟨h1, h2, h3⟩
  · subst h2 h3; exact key (by simp)
  · exact key h3
  · omega
theorem textAt_size (k0 q j : Nat) (l : List UInt8) (h : TextAt k0 q j l) (hk : k0 < 18446744073709551616) : l.length ≤ 20 := by
  have hl : (Lib.decDigits k0).length ≤ 20 := by rw [Lib.decDigits_length]; exact Lib.nDigits_le20 k0 hk
  rcases h with ⟨h1, h2, h3⟩ | ⟨h1, h2, h3⟩ | ⟨h1, h2, h3⟩
  · subst h2; simp
  · rw [h3, List.length_append] at hl; omega
  · rw [h3] at hl; exact hl
theorem textAt_end (k0 q j : Nat) (l : List UInt8) (h : TextAt k0 q j l) (hgo : ¬ (j = 0 ∨ 0 < q)) : l = Lib.decDigits k0 := by
  rcases h with ⟨h1, h2, h3⟩ | ⟨h1, h2, h3⟩ | ⟨h1, h2, h3⟩
  · omega
  · omega
  · exact h3.symm
theorem bytes_ext {a b : ByteArray} (h : a.data.toList = b.data.toList) : a = b := by
  cases a; cases b; congr 1; exact Array.ext' h

set_option maxHeartbeats 2000000 in
set_option maxRecDepth 1000000 in
theorem reftext_r (n : Int) (hn : R n) (s : ByteArray) (hs : s.data.toList = Lib.itoa n) (w : World) :
    Calls Tryd.prog 29 #[.int .i64 n] w fun e w' => e = .returned (.string s) ∧ Below w.heap.size w w' := by
  obtain ⟨k0, hk0⟩ : ∃ k, k = n.natAbs := ⟨_, rfl⟩
  have hkl : k0 < 18446744073709551616 := by unfold R at hn; omega
  have HN := Lib.hid hn
  have HK := Lib.hid hk0
  have HS := Lib.hid hs
  clear hn hk0 hs
  have HB := hb_start w
  by_cases hneg : n < 0
  all_goals
    have h0 : (n < 0) = (n < 0) := rfl
    clear h0
    go_enter Tryd.func29, Tryd.ntmps29
    go_wp2_with (go_at_call 34; refine (size_r n HN.out k0 HK.out _).mono ?_; rintro e w' ⟨rfl, rfl⟩)
    go_loopw [3, 5, 6] (fun k s i wr => ∃ (q j : Nat) (t : ByteArray), k = .int .u64 q ∧ s = .string t ∧ i = .int .i64 j ∧ q < 18446744073709551616 ∧ t.size = j ∧ Hid (TextAt k0 q j t.data.toList) ∧ Hid (Below w.heap.size w wr)) (fun k _ i _ => 2 * (intOf k).toNat + (1 - (intOf i).toNat))
    case atStart => exact ⟨k0, 0, ⟨#[]⟩, rfl, rfl, rfl, hkl, rfl, .inl ⟨rfl, rfl, rfl⟩, HB⟩
    case round =>
      clear HB
      obtain ⟨q, j, t, rfl, rfl, rfl, hq, htj, hT, HB⟩ := hrel
      have hsz : t.size ≤ 20 := by
        have := textAt_size k0 q j _ hT.out hkl
        have e : t.data.toList.length = t.size := by cases t; rfl
        omega
      by_cases hgo : j = 0 ∨ 0 < q
      · obtain ⟨d, hd⟩ : ∃ d : Nat, ((q : Int) % 10) = (d : Int) := ⟨q % 10, by omega⟩
        obtain ⟨b, hb⟩ : ∃ b, strOfNums [48 + (d : Int)] = b := ⟨_, rfl⟩
        have hnext := textAt_next k0 q j _ hT.out hgo
        have hb1 : b.size = 1 := by rw [← hb, strOfNums_size]; rfl
        have HL : Hid ((b ++ t).data.toList = UInt8.ofNat (48 + q % 10) :: t.data.toList) := by
          show _ = _
          rw [data_append, ← hb, strOfNums_data]
          have : (48 + (d : Int)).toNat = 48 + q % 10 := by omega
          simp [this]
        have kc := conv_one _ _ hb
        have HX := Lib.hid hnext
        have hd1 : (d : Int) ≤ 9 := by omega
        have HJ := Lib.hid htj
        have hj20 : j ≤ 20 := by omega
        clear hb hnext hT htj
        by_cases hj : j = 0
        · have hj' : ((j : Int) == 0) = true := by simpa using hj
          have hjz : j ≤ 0 := by omega
          clear hgo hj
          go_wp2
          go_roundw
          case rel => exact ⟨q / 10, j + 1, b ++ t, rfl, rfl, by go_num, by omega, by rw [ByteArray.size_append, hb1, HJ.out]; omega, by show TextAt _ _ _ _; rw [HL.out]; exact HX.out, hb_alloc HB _⟩
          case measure => simp [intOf]; omega
        · have hj' : ((j : Int) == 0) = false := by simpa using hj
          have hqp : 0 < q := by omega
          clear hgo hj
          go_wp2
          go_roundw
          case rel => exact ⟨q / 10, j + 1, b ++ t, rfl, rfl, by go_num, by omega, by rw [ByteArray.size_append, hb1, HJ.out]; omega, by show TextAt _ _ _ _; rw [HL.out]; exact HX.out, hb_alloc HB _⟩
          case measure => simp [intOf]; omega
      · have hend := textAt_end k0 q j _ hT.out hgo
        have hj' : ((j : Int) == 0) = false := by simp; omega
        obtain rfl : q = 0 := by omega
        have hfin : (if n < 0 then (⟨#[45]⟩ : ByteArray) ++ t else t) = s := by
          apply bytes_ext
          rw [HS.out]
          have := HK.out
          unfold Lib.itoa
          by_cases h : n < 0
          · rw [if_pos h, if_pos h, data_append, hend, this]; rfl
          · rw [if_neg h, if_neg h, hend, this, show n.natAbs = n.toNat by omega]
        have HF := Lib.hid hfin
        clear hend hT hgo htj hfin
        go_wp2
        go_ret
        have hf := HF.out
        first | rw [if_pos hneg] at hf | rw [if_neg (by omega)] at hf
        exact ⟨congrArg (fun x => Ending.returned (Value.string x)) hf, HB.out⟩

/-! ### Parse -/
/-- The number that the first digits tell. -/
def valL : List UInt8 → Nat → Nat
  | [], n => n
  | c :: l, n => valL l (10 * n + (c.toNat - 48))
def isDig (c : UInt8) : Prop := 48 ≤ c.toNat ∧ c.toNat ≤ 57
theorem valL_append (l1 l2 : List UInt8) : ∀ n, valL (l1 ++ l2) n = valL l2 (valL l1 n) := by
  induction l1 with
  | nil => intro n; rfl
  | cons c l ih => intro n; exact ih _
theorem valL_bound (l : List UInt8) : ∀ n, (∀ c ∈ l, isDig c) → valL l n < (n + 1) * 10 ^ l.length := by
  induction l with
  | nil => intro n h; simp [valL]
  | cons c l ih =>
    intro n h
    have h1 := ih (10 * n + (c.toNat - 48)) (fun c' hc => h c' (by simp [hc]))
    have h2 : isDig c := h c (by simp)
    unfold isDig at h2
    simp only [valL, List.length_cons, Nat.pow_succ]
    refine Nat.lt_of_lt_of_le h1 ?_
    have : 10 * n + (c.toNat - 48) + 1 ≤ (n + 1) * 10 := by omega
    calc (10 * n + (c.toNat - 48) + 1) * 10 ^ l.length ≤ ((n + 1) * 10) * 10 ^ l.length := Nat.mul_le_mul_right _ this
      _ = (n + 1) * (10 ^ l.length * 10) := by rw [Nat.mul_assoc, Nat.mul_comm 10]
theorem dec_isDig (u : Nat) : ∀ c ∈ Lib.decDigits u, isDig c := by
  induction u using Nat.strongRecOn with
  | _ u ih =>
    intro c hc
    rw [Lib.decDigits] at hc
    by_cases hu : u < 10
    · rw [dif_pos hu] at hc
      obtain rfl := List.mem_singleton.mp hc; unfold isDig; rw [UInt8.toNat_ofNat']; omega
    · rw [dif_neg hu] at hc
      rcases List.mem_append.mp hc with h | h
      · exact ih (u / 10) (by omega) c h
      · obtain rfl := List.mem_singleton.mp h; unfold isDig; rw [UInt8.toNat_ofNat']; omega
theorem valL_dec (u : Nat) : valL (Lib.decDigits u) 0 = u := by
  induction u using Nat.strongRecOn with
  | _ u ih =>
    rw [Lib.decDigits]
    by_cases hu : u < 10
    · rw [dif_pos hu]; simp only [valL]; rw [UInt8.toNat_ofNat']; omega
    · rw [dif_neg hu, valL_append, ih (u / 10) (by omega)]; simp only [valL]; rw [UInt8.toNat_ofNat']; omega
theorem dec_len19 (u : Nat) (h : u ≤ 9223372036854775807) : (Lib.decDigits u).length ≤ 19 := by
  rw [Lib.decDigits_length]
  have key : ∀ k u : Nat, u < 10 ^ (k + 1) → Lib.nDigits u ≤ k + 1 := by
    intro k
    induction k with
    | zero => intro u hu; rw [Lib.nDigits]; rw [dif_pos (by omega)]
              omega
    | succ k ih =>
      intro u hu
      rw [Lib.nDigits]
      split
      · omega
      · have := ih (u / 10) (by rw [Nat.pow_succ] at hu; omega)
        omega
  exact key 18 u (by omega)
/-- What the reference's Parse tells: none, where one of the first nineteen bytes is no digit. -/
theorem parseL_no (l : List UInt8) (c : UInt8) (hc : c ∈ l) (h : ¬ isDig c) : parseL l = (0, false) := by
  cases hp : parseL l with
  | mk v b =>
    cases b with
    | false =>
      unfold parseL at hp
      split at hp
      · exact hp.symm
      · have := pd_false l 0 (by rw [hp]); rw [this] at hp; exact hp.symm
    | true =>
      obtain ⟨h1, h2, h3⟩ := parseL_back l v hp
      exact absurd (dec_isDig v.toNat c (by rw [← h3]; exact hc)) h
/-- .. and where it comes to a number: that, if its text is the text. -/
theorem parseL_val (l : List UInt8) (n : Nat) (hd : ∀ c ∈ l.take 19, isDig c) (hn : valL (l.take 19) 0 = n) :
    parseL l = if n < 9223372036854775808 ∧ Lib.decDigits n = l then ((n : Int), true) else (0, false) := by
  cases hp : parseL l with
  | mk v b =>
    cases b with
    | false =>
      have e : v = 0 := by
        unfold parseL at hp
        split at hp
        · exact (Prod.mk.inj hp).1.symm
        · have := pd_false l 0 (by rw [hp]); rw [this] at hp; exact (Prod.mk.inj hp).1.symm
      subst e
      rw [if_neg]
      rintro ⟨h1, h2⟩
      rw [← h2, parseL_dec n (by omega)] at hp
      simp at hp
    | true =>
      obtain ⟨h1, h2, h3⟩ := parseL_back l v hp
      have hl := dec_len19 v.toNat (by omega)
      have ht : l.take 19 = l := List.take_of_length_le (by rw [h3]; exact hl)
      rw [ht, h3, valL_dec] at hn
      rw [if_pos ⟨by omega, by rw [← hn, ← h3]⟩]
      congr 1
      omega

theorem toList_eq_data (s : ByteArray) : s.toList = s.data.toList := ByteArray.toList_eq s
theorem take_next (s : ByteArray) (i : Nat) (h : i < s.size) : s.data.toList.take (i + 1) = s.data.toList.take i ++ [s[i]] := by
  have hl : s.data.toList.length = s.size := by cases s; rfl
  rw [List.take_succ_eq_append_getElem (by omega)]; rfl
theorem valL_next (l : List UInt8) (c : UInt8) (n : Nat) : valL (l ++ [c]) n = 10 * valL l n + (c.toNat - 48) := by rw [valL_append]; rfl

set_option maxHeartbeats 2000000 in
set_option maxRecDepth 1000000 in
theorem refparse_r (s : ByteArray) (rn : Int) (rb : Bool) (hr : parseL s.data.toList = (rn, rb)) (hs : s.size ≤ 9223372036854775807) (w : World) :
    Calls Tryd.prog 28 #[.string s] w fun e w' => e = .returned (.tuple #[.int .i64 rn, .bool rb]) ∧ Below w.heap.size w w' := by
  have HR := Lib.hid hr
  clear hr
  have HB := hb_start w
  go_enter Tryd.func28, Tryd.ntmps28
  generalize hB : (9223372036854775808 : Int) = B
  have HBB := Lib.hid hB
  clear hB
  go_wp2
  go_loop [4, 5] (fun n i => ∃ m k : Nat, n = .int .u64 m ∧ i = .int .i64 k ∧ k ≤ s.size ∧ k ≤ 19 ∧ Hid (valL (s.data.toList.take k) 0 = m ∧ ∀ c ∈ s.data.toList.take k, isDig c)) (fun _ i => s.size - (intOf i).toNat)
  case atStart => exact ⟨0, 0, rfl, rfl, by omega, by omega, by show _ ∧ _; simp [valL]⟩
  case round =>
    obtain ⟨m, k, rfl, rfl, hk, hk19, hs2⟩ := hrel
    have hl : s.data.toList.length = s.size := by cases s; rfl
    have hm : m < 10000000000000000000 := by
      have h1 := valL_bound (s.data.toList.take k) 0 hs2.out.2
      rw [hs2.out.1, List.length_take] at h1
      have h2 : 10 ^ min k s.data.toList.length ≤ 10 ^ 19 := Nat.pow_le_pow_right (by omega) (by omega)
      omega
    by_cases hlt : k < s.size ∧ k < 19
    · obtain ⟨h1, h2⟩ := hlt
      have hc : s[k] ∈ s.data.toList := by
        have : s[k] = s.data.toList[k] := rfl
        rw [this]; exact List.getElem_mem _
      have hb := (s[k]).toNat_lt
      by_cases hd : isDig s[k]
      · have hn : Hid (valL (s.data.toList.take (k + 1)) 0 = 10 * m + (s[k].toNat - 48) ∧ ∀ c ∈ s.data.toList.take (k + 1), isDig c) := by
          rw [take_next s k h1]
          show _ ∧ _
          refine ⟨by rw [valL_next, hs2.out.1], fun c hc => ?_⟩
          rcases List.mem_append.mp hc with h | h
          · exact hs2.out.2 c h
          · obtain rfl := List.mem_singleton.mp h; exact hd
        unfold isDig at hd
        obtain ⟨hd1, hd2⟩ := hd
        have hmk : m < 1000000000000000000 := by
          have h3 := valL_bound (s.data.toList.take k) 0 hs2.out.2
          rw [hs2.out.1, List.length_take] at h3
          have h4 : 10 ^ min k s.data.toList.length ≤ 10 ^ 18 := Nat.pow_le_pow_right (by omega) (by omega)
          omega
        clear hs2 hc hl
        go_wp2
        go_round
        case rel => exact ⟨10 * m + (s[k].toNat - 48), k + 1, by first | rfl | exact congrArg (Value.int _) (by omega), by go_num, by omega, by omega, hn⟩
        case measure => simp [intOf]; omega
      · have hno : parseL s.data.toList = (0, false) := parseL_no _ _ hc hd
        obtain ⟨rfl, rfl⟩ := Prod.mk.inj (HR.out.symm.trans hno)
        unfold isDig at hd
        clear hs2 hc hl hno HR
        by_cases hd1 : s[k].toNat < 48
        · go_wp2
          go_ret2
          exact ⟨rfl, HB.out⟩
        · have hd2 : 57 < s[k].toNat := by omega
          clear hd
          go_wp2
          go_ret2
          exact ⟨rfl, HB.out⟩
    · have hv := parseL_val s.data.toList m (by
        have : s.data.toList.take 19 = s.data.toList.take k := by
          by_cases h : k = 19
          · rw [h]
          · rw [List.take_of_length_le (by omega), List.take_of_length_le (by omega)]
        rw [this]; exact hs2.out.2) (by
        have : s.data.toList.take 19 = s.data.toList.take k := by
          by_cases h : k = 19
          · rw [h]
          · rw [List.take_of_length_le (by omega), List.take_of_length_le (by omega)]
        rw [this]; exact hs2.out.1)
      clear hs2
      have hend : (s.size : Int) ≤ k ∨ (19 : Int) ≤ k := by omega
      have hg1 : ¬ ((k : Int) < (s.size : Int) ∧ (k : Int) < 19) := by omega
      rw [HR.out] at hv
      clear hlt hl HR
      by_cases hbig : m < 9223372036854775808
      all_goals
        have hge : (B ≤ (m : Int)) ↔ ¬ m < 9223372036854775808 := by have := HBB.out; omega
      · obtain ⟨t, ht⟩ : ∃ t : ByteArray, t.data.toList = Lib.itoa (m : Int) := ⟨⟨(Lib.itoa m).toArray⟩, by simp⟩
        have hti : Lib.itoa (m : Int) = Lib.decDigits m := Lib.itoa_nonneg m
        have hR : R (m : Int) := by unfold R; omega
        have hcmp : (t.toList == s.toList) = decide (Lib.decDigits m = s.data.toList) := by
          rw [toList_eq_data, toList_eq_data, ht, hti, Bool.eq_iff_iff]; simp
        have hw : IntKind.i64.wrap (m : Int) = m := by rw [IntKind.wrap_i64]; omega
        have HTT := Lib.hid ht
        have HRR := Lib.hid hR
        have hge1 : ¬ B ≤ (m : Int) := fun h => hge.mp h hbig
        clear ht hti hR hm hge
        by_cases he : Lib.decDigits m = s.data.toList
        · rw [if_pos ⟨hbig, he⟩] at hv
          obtain ⟨rfl, rfl⟩ := Prod.mk.inj hv
          clear hv hbig
          rw [decide_eq_true he] at hcmp
          clear he
          by_cases hks : k < s.size
          · have h19 : (19 : Int) ≤ k := by omega
            clear hend hg1
            go_wp2_with (go_at_call 29; refine (reftext_r m HRR.out t HTT.out _).mono ?_; rintro e w' ⟨rfl, hb⟩; replace HB := hb_step HB hb; clear hb)
            go_ret2
            exact ⟨rfl, HB.out⟩
          · clear hend hg1
            go_wp2_with (go_at_call 29; refine (reftext_r m HRR.out t HTT.out _).mono ?_; rintro e w' ⟨rfl, hb⟩; replace HB := hb_step HB hb; clear hb)
            go_ret2
            exact ⟨rfl, HB.out⟩
        · rw [if_neg (fun h => he h.2)] at hv
          obtain ⟨rfl, rfl⟩ := Prod.mk.inj hv
          clear hv hbig
          rw [decide_eq_false he] at hcmp
          clear he
          by_cases hks : k < s.size
          · have h19 : (19 : Int) ≤ k := by omega
            clear hend hg1
            go_wp2_with (go_at_call 29; refine (reftext_r m HRR.out t HTT.out _).mono ?_; rintro e w' ⟨rfl, hb⟩; replace HB := hb_step HB hb; clear hb)
            go_ret2
            exact ⟨rfl, HB.out⟩
          · clear hend hg1
            go_wp2_with (go_at_call 29; refine (reftext_r m HRR.out t HTT.out _).mono ?_; rintro e w' ⟨rfl, hb⟩; replace HB := hb_step HB hb; clear hb)
            go_ret2
            exact ⟨rfl, HB.out⟩
      · rw [if_neg (fun h => hbig h.1)] at hv
        obtain ⟨rfl, rfl⟩ := Prod.mk.inj hv
        have hge1 : B ≤ (m : Int) := hge.mpr hbig
        clear hv hm hge hbig
        by_cases hks : k < s.size
        · have h19 : (19 : Int) ≤ k := by omega
          clear hend hg1
          go_wp2
          go_ret2
          exact ⟨rfl, HB.out⟩
        · clear hend hg1
          go_wp2
          go_ret2
          exact ⟨rfl, HB.out⟩
end Go.Proofs.YtohkafjfolojcaaDoor
