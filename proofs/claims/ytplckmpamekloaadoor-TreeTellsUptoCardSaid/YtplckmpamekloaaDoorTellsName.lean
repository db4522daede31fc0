/- The document's Name. -/
import Derived.Test.YtplckmpamekloaaDoorTellsLex
namespace Go.Proofs.YtplckmpamekloaaDoor
open Go.RowKit Go.Sort
set_option linter.unusedVariables false

theorem name_shape (s : ByteArray) : nameB s = (!kwB s && shapeB s) := by
  unfold nameB shapeB
  cases decide (0 < s.size ∧ s.size ≤ 32) <;> cases letterB (byteAt s 0) <;> cases kwB s <;> cases anyBad s s.size <;> rfl
def kwR (s : ByteArray) (k : Nat) : Bool := (List.range k).any fun i => (kwL.getD i ByteArray.empty).toList == s.toList
theorem kwR_next (s : ByteArray) (k : Nat) : kwR s (k + 1) = (kwR s k || ((kwL.getD k ByteArray.empty).toList == s.toList)) := by
  unfold kwR; rw [List.range_succ, List.any_append]; simp
theorem kwR_mem (s : ByteArray) (n k : Nat) (hk : k < n) (h : ((kwL.getD k ByteArray.empty).toList == s.toList) = true) : kwR s n = true := by
  unfold kwR; exact List.any_eq_true.2 ⟨k, List.mem_range.2 hk, h⟩
theorem kwR_all (s : ByteArray) : kwR s 10 = kwB s := by
  rw [Bool.eq_iff_iff]
  unfold kwR kwB
  rw [List.any_eq_true, List.any_eq_true]
  constructor
  · rintro ⟨i, hi, h⟩
    have hi' : i < kwL.length := List.mem_range.1 hi
    refine ⟨kwL.getD i ByteArray.empty, ?_, ?_⟩
    · rw [List.getD_eq_getElem?_getD, List.getElem?_eq_getElem hi']; exact List.getElem_mem hi'
    · rw [beq_iff_eq] at h ⊢; exact h.symm
  · rintro ⟨x, hx, h⟩
    obtain ⟨i, hi, rfl⟩ := List.mem_iff_getElem.1 hx
    refine ⟨i, List.mem_range.2 hi, ?_⟩
    rw [List.getD_eq_getElem?_getD, List.getElem?_eq_getElem hi]
    rw [beq_iff_eq] at h ⊢; exact h.symm
theorem size_list (s : ByteArray) : s.toList.length = s.size := by rw [ByteArray.toList_eq]; cases s; rfl

set_option maxHeartbeats 8000000 in
set_option maxRecDepth 1000000 in
theorem rname_r (s : ByteArray) (q : Bool) (hq : nameB s = q) (w : World) :
    Calls Tryd.prog 21 #[.string s] w fun e w' => e = .returned (.bool q) ∧ Below w.heap.size w w' := by
  rw [name_shape, ← kwR_all] at hq
  have HQ := Lib.hid hq
  clear hq
  go_enter Tryd.func21, Tryd.ntmps21
  go_wp2_with fail
  have hst := kw_in w
  have hbl : Below w.heap.size w (w.alloc (.cells kwCells 9)) := (Below.refl _ _).alloc (Nat.le_refl _) _
  unfold kwCells at hst hbl
  generalize w.alloc (.cells #[.string ⟨#[102, 117, 110, 99]⟩, .string ⟨#[97, 114, 114, 97, 121]⟩, .string ⟨#[105, 110, 112, 117, 116]⟩, .string ⟨#[112, 114, 105, 110, 116]⟩, .string ⟨#[107, 101, 101, 112]⟩, .string ⟨#[105, 102]⟩, .string ⟨#[101, 108, 115, 101]⟩, .string ⟨#[119, 104, 105, 108, 101]⟩, .string ⟨#[114, 101, 116, 117, 114, 110]⟩, .string ⟨#[99, 108, 111, 99, 107]⟩] 9) = W0 at hst hbl ⊢
  have HST : Hid (StrIn W0 w.heap.size 0 kwL) := hst
  have HBL := Lib.hid hbl
  clear hst hbl
  go_loop [4] (fun i => ∃ k : Nat, i = .int .i64 k ∧ k ≤ 10 ∧ Hid (kwR s k = false)) (fun i => 10 - (intOf i).toNat)
  case atStart => exact ⟨0, rfl, by omega, rfl⟩
  case round =>
    obtain ⟨k, rfl, hk, HA⟩ := hrel
    by_cases hlt : k < 10
    · have e := HST.out k hlt
      rw [Nat.zero_add] at e
      have hnx := kwR_next s k
      have hmm := kwR_mem s 10 k hlt
      generalize kwL.getD k ByteArray.empty = x at e hnx hmm
      obtain ⟨t, ht⟩ : ∃ t, (x.toList == s.toList) = t := ⟨_, rfl⟩
      rw [ht] at hnx hmm
      have HN := Lib.hid hnx
      have HM := Lib.hid hmm
      clear hnx hmm
      cases t with
      | true =>
        go_wp2
        go_ret
        obtain rfl : q = false := by rw [← HQ.out, HM.out (by first | rfl | trivial)]; rfl
        exact ⟨rfl, HBL.out⟩
      | false =>
        go_wp2
        go_round
        case rel => exact ⟨k + 1, by go_num, by omega, by show _ = _; rw [HN.out, HA.out]; rfl⟩
        case measure => simp [intOf]; omega
    · obtain rfl : k = 10 := by omega
      have HS : Hid (shapeB s = q) := by show _ = _; rw [← HQ.out, HA.out]; rfl
      go_wp2_with fail
      refine (lex_r s _).mono ?_
      rintro e w2 ⟨⟨v, i, e', rfl, hl⟩, hb⟩
      have HB : Hid (Below w.heap.size w w2) := HBL.out.trans (hb.mono HBL.out.size)
      clear hb
      rcases hl with ⟨he, rfl, hf⟩ | ⟨rfl, g, m, c, kind, text, rfl, hm0, hmc, hcm, c0, c1, ⟨hf, rfl, rfl, rfl⟩ | ⟨hf, hx⟩⟩
      · have he' : (e' == 0) = false := by simpa using he
        obtain rfl : q = false := HS.out.symm.trans hf
        clear he hf
        go_wp2
        go_ret
        exact ⟨rfl, HB.out⟩
      · obtain rfl : q = true := HS.out.symm.trans hf
        clear hf
        have hcm' : c ≤ 9223372036854775807 := hcm
        clear hcm
        go_wp2
        go_ret
        exact ⟨rfl, HB.out⟩
      · obtain rfl : q = false := HS.out.symm.trans hf
        have hcm' : c ≤ 9223372036854775807 := hcm
        have HX := Lib.hid hx
        clear hcm hf hx
        obtain ⟨b2, h2⟩ : ∃ b, ((m : Int) == 2) = b := ⟨_, rfl⟩
        cases b2 with
        | false =>
          go_wp2
          go_ret
          exact ⟨rfl, HB.out⟩
        | true =>
        obtain rfl : m = 2 := by have : (m : Int) = 2 := by simpa using h2
                                 omega
        clear h2
        obtain ⟨b1, h1⟩ : ∃ b, (kind == 1) = b := ⟨_, rfl⟩
        cases b1 with
        | false =>
          go_wp2
          go_ret
          exact ⟨rfl, HB.out⟩
        | true =>
          have h3 : (text.toList == s.toList) = false := by
            rcases HX.out with h | h | h
            · exact absurd rfl h
            · exact absurd (by simpa using h1) h
            · rw [← Bool.not_eq_true, beq_iff_eq]
              intro e
              have := congrArg List.length e
              rw [size_list, size_list] at this
              omega
          go_wp2
          go_ret
          exact ⟨rfl, HB.out⟩
end Go.Proofs.YtplckmpamekloaaDoor
