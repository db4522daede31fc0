/- Texts of numbers, read again: plain laws of 'parseN' and the decimal digits; no program. -/
import Derived.Test.YtohkafjfolojcaaDoorWrapDefs
import Derived.Lib.ItoaNum
namespace Go.Proofs.YtohkafjfolojcaaDoor
open Go.RowKit

/-- Parse's loop over a list. -/
def pd : List UInt8 → Int → Int × Bool
  | [], n => (n, true)
  | c :: l, n =>
    if 48 ≤ (c.toNat : Int) ∧ (c.toNat : Int) ≤ 57 then
      if n > (9223372036854775807 - ((c.toNat : Int) - 48)) / 10 then (0, false) else pd l (10 * n + ((c.toNat : Int) - 48))
    else (0, false)
def parseL (l : List UInt8) : Int × Bool :=
  if l = [] ∨ (l.head? = some 48 ∧ 1 < l.length) then (0, false) else pd l 0
theorem pDig_eq (s : ByteArray) : ∀ k i n, s.size ≤ i + k → pDig s k i n = pd (s.data.toList.drop i) n := by
  intro k
  induction k with
  | zero => intro i n h; rw [List.drop_eq_nil_of_le (by have : s.data.toList.length = s.size := by cases s; rfl
                                                        omega)]; rfl
  | succ k ih =>
    intro i n h
    have hl : s.data.toList.length = s.size := by cases s; rfl
    by_cases hi : i < s.size
    · have hd : s.data.toList.drop i = s[i] :: s.data.toList.drop (i + 1) := by
        rw [List.drop_eq_getElem_cons (by omega)]; rfl
      have hb := byteAt_of s i hi
      rw [hd]
      simp only [pDig, pd, if_pos hi, hb]
      rw [ih (i + 1) _ (by omega)]
    · rw [List.drop_eq_nil_of_le (by omega), pDig_end s _ i n hi]; rfl
theorem parseN_eq (s : ByteArray) : parseN s = parseL s.data.toList := by
  have hl : s.data.toList.length = s.size := by cases s; rfl
  unfold parseN parseL
  have e : (s.size = 0 ∨ (byteAt s 0 = 48 ∧ 1 < s.size)) ↔ (s.data.toList = [] ∨ (s.data.toList.head? = some 48 ∧ 1 < s.data.toList.length)) := by
    by_cases h0 : s.size = 0
    · have : s.data.toList = [] := List.eq_nil_of_length_eq_zero (by omega)
      simp [h0, this]
    · have hd : s.data.toList = s[0] :: s.data.toList.drop 1 := by
        conv => lhs; rw [← List.drop_zero (l := s.data.toList), List.drop_eq_getElem_cons (by omega)]
        rfl
      rw [byteAt_of s 0 (by omega), hl]
      rw [hd]
      simp only [List.head?_cons, Option.some.injEq, reduceCtorEq, false_or, h0]
      have : ((s[0].toNat : Int) = 48 ↔ s[0] = 48) := by
        constructor
        · intro h; exact UInt8.toNat_inj.mp (by show _ = 48; omega)
        · intro h; rw [h]; rfl
      rw [this]
  by_cases h : (s.size = 0 ∨ (byteAt s 0 = 48 ∧ 1 < s.size))
  · rw [if_pos h, if_pos (e.mp h)]
  · rw [if_neg h, if_neg (fun h' => h (e.mpr h')), pDig_eq s _ 0 0 (by omega), List.drop_zero]
theorem pd_append (l1 l2 : List UInt8) : ∀ n, pd (l1 ++ l2) n = if (pd l1 n).2 = true then pd l2 (pd l1 n).1 else (0, false) := by
  induction l1 with
  | nil => intro n; simp [pd]
  | cons c l ih =>
    intro n
    simp only [List.cons_append, pd]
    split
    · split
      · simp
      · exact ih _
    · simp
theorem pd_false (l : List UInt8) : ∀ n, (pd l n).2 = false → pd l n = (0, false) := by
  induction l with
  | nil => intro n h; simp [pd] at h
  | cons c l ih =>
    intro n h
    simp only [pd] at *
    split
    · rename_i h1
      rw [if_pos h1] at h
      split
      · rfl
      · rename_i h2; rw [if_neg h2] at h; exact ih _ h
    · rfl
theorem digit_nat (d : Nat) (h : d < 10) : ((UInt8.ofNat (48 + d)).toNat : Int) = 48 + d := by
  rw [UInt8.toNat_ofNat']; omega
theorem pd_dec (u : Nat) : u ≤ 9223372036854775807 → pd (Lib.decDigits u) 0 = ((u : Int), true) := by
  induction u using Nat.strongRecOn with
  | _ u ih =>
    intro h
    rw [Lib.decDigits]
    by_cases hu : u < 10
    · rw [dif_pos hu]
      simp only [pd, digit_nat u hu]
      rw [if_pos (by omega), if_neg (by omega)]
      simp; omega
    · rw [dif_neg hu, pd_append, ih (u / 10) (by omega) (by omega)]
      simp only [if_true, pd, digit_nat (u % 10) (by omega)]
      rw [if_pos (by omega), if_neg (by omega)]
      simp; omega
theorem dec_ne (u : Nat) : Lib.decDigits u ≠ [] := by
  rw [Lib.decDigits]; split <;> simp
theorem head_append {l1 l2 : List UInt8} (h : l1 ≠ []) : (l1 ++ l2).head? = l1.head? := by
  cases l1 with
  | nil => exact absurd rfl h
  | cons c l => rfl
theorem dec_head (u : Nat) (h : 0 < u) : (Lib.decDigits u).head? ≠ some 48 := by
  induction u using Nat.strongRecOn with
  | _ u ih =>
    rw [Lib.decDigits]
    by_cases hu : u < 10
    · rw [dif_pos hu]
      intro e
      have := congrArg (fun o : Option UInt8 => o.map UInt8.toNat) e
      simp at this
      omega
    · rw [dif_neg hu, head_append (dec_ne _)]
      exact ih (u / 10) (by omega) (by omega)
/-- The text of a number from 0 on reads as the number. -/
theorem parseL_dec (u : Nat) (h : u ≤ 9223372036854775807) : parseL (Lib.decDigits u) = ((u : Int), true) := by
  unfold parseL
  rw [if_neg, pd_dec u h]
  rintro (h1 | ⟨h1, h2⟩)
  · exact dec_ne u h1
  · by_cases hu : u = 0
    · subst hu; rw [Lib.decDigits] at h2; simp at h2
    · exact dec_head u (by omega) h1
/-- What is read is the text of the number. -/
theorem pd_dec_back (l : List UInt8) : ∀ u : Nat, ∀ v : Int, 0 < u → pd l (u : Int) = (v, true) → 0 ≤ v ∧ v ≤ 9223372036854775807 → Lib.decDigits u ++ l = Lib.decDigits v.toNat := by
  induction l with
  | nil => intro u v hu h hv; simp [pd] at h; obtain rfl := h; simp
  | cons c l ih =>
    intro u v hu h hv
    simp only [pd] at h
    by_cases h1 : 48 ≤ (c.toNat : Int) ∧ (c.toNat : Int) ≤ 57
    · rw [if_pos h1] at h
      by_cases h2 : (u : Int) > (9223372036854775807 - ((c.toNat : Int) - 48)) / 10
      · rw [if_pos h2] at h; simp at h
      · rw [if_neg h2] at h
        have e : (10 * (u : Int) + ((c.toNat : Int) - 48)) = ((10 * u + (c.toNat - 48) : Nat) : Int) := by omega
        rw [e] at h
        have := ih (10 * u + (c.toNat - 48)) v (by omega) h hv
        rw [← this]
        have hc : Lib.decDigits (10 * u + (c.toNat - 48)) = Lib.decDigits u ++ [c] := by
          rw [Lib.decDigits, dif_neg (by omega)]
          have e1 : (10 * u + (c.toNat - 48)) / 10 = u := by omega
          have e2 : (10 * u + (c.toNat - 48)) % 10 = c.toNat - 48 := by omega
          rw [e1, e2]
          have e3 : UInt8.ofNat (48 + (c.toNat - 48)) = c := by
            apply UInt8.toNat_inj.mp; rw [UInt8.toNat_ofNat']; have := c.toNat_lt; omega
          rw [e3]
        rw [hc]; simp
    · rw [if_neg h1] at h; simp at h
theorem pd_range (l : List UInt8) : ∀ n v : Int, 0 ≤ n → n ≤ 9223372036854775807 → pd l n = (v, true) → 0 ≤ v ∧ v ≤ 9223372036854775807 := by
  induction l with
  | nil => intro n v h0 h1 h; simp [pd] at h; omega
  | cons c l ih =>
    intro n v h0 h1 h
    simp only [pd] at h
    by_cases h1 : 48 ≤ (c.toNat : Int) ∧ (c.toNat : Int) ≤ 57
    · rw [if_pos h1] at h
      by_cases h2 : n > (9223372036854775807 - ((c.toNat : Int) - 48)) / 10
      · rw [if_pos h2] at h; simp at h
      · rw [if_neg h2] at h
        exact ih _ v (by omega) (by omega) h
    · rw [if_neg h1] at h; simp at h
theorem parseL_back (l : List UInt8) (v : Int) (h : parseL l = (v, true)) : 0 ≤ v ∧ v ≤ 9223372036854775807 ∧ l = Lib.decDigits v.toNat := by
  unfold parseL at h
  by_cases h0 : l = [] ∨ (l.head? = some 48 ∧ 1 < l.length)
  · rw [if_pos h0] at h; simp at h
  · rw [if_neg h0] at h
    have hr := pd_range l 0 v (by omega) (by omega) h
    refine ⟨hr.1, hr.2, ?_⟩
    cases l with
    | nil => simp at h0
    | cons c l =>
      simp only [pd] at h
      by_cases h1 : 48 ≤ (c.toNat : Int) ∧ (c.toNat : Int) ≤ 57
      · rw [if_pos h1, if_neg (by omega)] at h
        have e : (10 * (0 : Int) + ((c.toNat : Int) - 48)) = ((c.toNat - 48 : Nat) : Int) := by omega
        rw [e] at h
        have hc : Lib.decDigits (c.toNat - 48) = [c] := by
          rw [Lib.decDigits, dif_pos (by omega)]
          have e3 : UInt8.ofNat (48 + (c.toNat - 48)) = c := by
            apply UInt8.toNat_inj.mp; rw [UInt8.toNat_ofNat']; have := c.toNat_lt; omega
          rw [e3]
        by_cases hz : c = 48
        · have hl : l = [] := by
            simp only [List.head?_cons, hz, List.length_cons, true_and, reduceCtorEq, false_or] at h0
            exact List.eq_nil_of_length_eq_zero (by omega)
          subst hl
          simp [pd] at h
          rw [← hc]; congr 1; omega
        · have hp : 0 < c.toNat - 48 := by
            have : c.toNat ≠ 48 := fun e => hz (UInt8.toNat_inj.mp e)
            omega
          rw [← pd_dec_back l _ v hp h hr, hc]; rfl
      · rw [if_neg h1] at h; simp at h
/-- One byte more. -/
theorem parseL_digit (u : Nat) (c : UInt8) (hu : u ≤ 9223372036854775807) (hc : 48 ≤ (c.toNat : Int) ∧ (c.toNat : Int) ≤ 57) :
    parseL (Lib.decDigits u ++ [c]) = if (u : Int) ≤ (9223372036854775807 - ((c.toNat : Int) - 48)) / 10 ∧ (0 : Int) < u then (10 * (u : Int) + ((c.toNat : Int) - 48), true) else (0, false) := by
  unfold parseL
  by_cases h0 : u = 0
  · subst h0
    have e : Lib.decDigits 0 = [48] := by rw [Lib.decDigits]; rfl
    rw [e, if_pos (by right; simp), if_neg (by omega)]
  · have hlen : (Lib.decDigits u).length ≠ 0 := fun h => dec_ne u (List.eq_nil_of_length_eq_zero h)
    rw [if_neg, pd_append, pd_dec u hu]
    · simp only [if_true, pd]
      rw [if_pos hc]
      by_cases h1 : (u : Int) > (9223372036854775807 - ((c.toNat : Int) - 48)) / 10
      · rw [if_pos h1, if_neg (by omega)]
      · rw [if_neg h1, if_pos (by omega)]
    · rintro (h1 | ⟨h1, h2⟩)
      · simp at h1
      · rw [head_append (dec_ne _)] at h1
        exact dec_head u (by omega) h1
theorem parseL_other (u : Nat) (c : UInt8) (hu : u ≤ 9223372036854775807) (hc : ¬ (48 ≤ (c.toNat : Int) ∧ (c.toNat : Int) ≤ 57)) :
    parseL (Lib.decDigits u ++ [c]) = (0, false) := by
  unfold parseL
  split
  · rfl
  · rw [pd_append, pd_dec u hu]
    simp only [if_true, pd]
    rw [if_neg hc]
theorem parseL_ahead (l : List UInt8) (c : UInt8) (hc : ¬ (48 ≤ (c.toNat : Int) ∧ (c.toNat : Int) ≤ 57)) :
    parseL (c :: l) = (0, false) := by
  unfold parseL
  split
  · rfl
  · simp only [pd]
    rw [if_neg hc]
end Go.Proofs.YtohkafjfolojcaaDoor
