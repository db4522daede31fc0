/- Slot, Find, Secret. -/
import Derived.Test.YthjjcmmonjajhaaDoorCompDefs
import Derived.Deep.QuietTactic
import Derived.BigQuiet
namespace Go.Proofs.YthjjcmmonjajhaaDoor
open Go.RowKit Go.Sort
set_option linter.unusedVariables false

set_option maxHeartbeats 2000000 in
set_option maxRecDepth 1000000 in
theorem index_i (v : Value) (l : List ByteArray) (s : ByteArray) (w : World) (h : TSl w v l) (q : Int) (hq : slotI l s = q) :
    Calls Tryd.prog 47 #[v, .string s] w fun e w' => e = .returned (.int .i64 q) ∧ w' = w := by
  cases h with
  | mk a b off cap l ha hc hm hcell =>
  have HA := Lib.hid ha
  have HI := Lib.hid hcell
  have HQ := Lib.hid hq
  have hm1 : cap ≤ 9223372036854775807 := hm
  clear ha hcell hq hm
  go_enter Tryd.func47, Tryd.ntmps47
  go_wp2
  go_loopw [8] (fun i wr => ∃ k : Nat, i = .int .i64 k ∧ k ≤ l.length ∧ wr = w ∧ Hid (∀ i, i < k → (s.toList == (l.getD i ByteArray.empty).toList) = false)) (fun i _ => l.length - (intOf i).toNat)
  case atStart => exact ⟨0, rfl, by omega, rfl, fun i hi => absurd hi (by omega)⟩
  case round =>
    obtain ⟨k, rfl, hk, rfl, HA'⟩ := hrel
    by_cases hlt : k < l.length
    · obtain rfl := HA.out (by omega)
      have hcell := HI.out k hlt
      obtain ⟨x, hx⟩ : ∃ x, l.getD k ByteArray.empty = x := ⟨_, rfl⟩
      rw [hx] at hcell
      obtain ⟨t, ht⟩ : ∃ t, (s.toList == x.toList) = t := ⟨_, rfl⟩
      have HX := Lib.hid hx
      have HT := Lib.hid ht
      clear hx
      cases t with
      | true =>
        go_wp2
        go_ret
        obtain rfl : (k : Int) = q := by rw [← HQ.out]; exact (firstI_at hlt (by rw [HX.out]; exact HT.out) HA'.out).symm
        exact ⟨rfl, rfl⟩
      | false =>
        go_wp2
        go_roundw
        case rel =>
          refine ⟨k + 1, by go_num, by omega, trivial, fun i hi => ?_⟩
          rcases Nat.lt_or_ge i k with h | h
          · exact HA'.out i h
          · obtain rfl : i = k := by omega
            rw [HX.out]; exact HT.out
        case measure => simp [intOf]; omega
    · obtain rfl : k = l.length := by omega
      go_wp2
      go_ret
      obtain rfl : (-1 : Int) = q := by rw [← HQ.out]; exact (firstI_no HA'.out).symm
      exact ⟨rfl, rfl⟩
set_option maxHeartbeats 2000000 in
set_option maxRecDepth 1000000 in
theorem slot_r (v : Value) (l : List ByteArray) (s : ByteArray) (w : World) (h : TSl w v l) (q : Int) (hq : slotI l s = q) :
    Calls Tryd.prog 29 #[v, .string s] w fun e w' => e = .returned (.int .i64 q) ∧ w' = w := by
  have HH := Lib.hid h
  have HQ := Lib.hid hq
  clear h hq
  go_enter Tryd.func29, Tryd.ntmps29
  go_wp2_with (go_at_call 47; refine (index_i v l s _ HH.out _ HQ.out).mono ?_; rintro e w' ⟨rfl, rfl⟩)
  go_ret
  exact ⟨rfl, rfl⟩
theorem TSl.shapeT {w : World} {v : Value} {l : List ByteArray} (h : TSl w v l) : ∃ a n c, v = .slice a n c := by cases h; exact ⟨_, _, _, rfl⟩
set_option maxHeartbeats 4000000 in
set_option maxRecDepth 1000000 in
theorem find_r (v : Value) (l : List SC) (s : ByteArray) (w : World) (h : CSl w v l) (q : Int) (hq : findI l s = q) :
    Calls Tryd.prog 62 #[v, .string s] w fun e w' => e = .returned (.int .i64 q) ∧ Below w.heap.size w w' := by
  cases h with
  | mk a b off cap l f g ha hc hm hcell h1 h2 =>
  have HA := Lib.hid ha
  have HI := Lib.hid hcell
  have HQ := Lib.hid hq
  have hm1 : cap ≤ 9223372036854775807 := hm
  have HF := Lib.hid h1
  have HG := Lib.hid h2
  clear ha hcell hq hm h1 h2
  have HB := hb_start w
  go_enter Tryd.func62, Tryd.ntmps62
  go_wp2
  go_loopw [9] (fun i wr => ∃ k : Nat, i = .int .i64 k ∧ k ≤ l.length ∧ Hid (Below w.heap.size w wr) ∧ Hid (∀ i, i < k → (decide (0 < i) && ((l.getD i default).name.toList == s.toList)) = false)) (fun i _ => l.length - (intOf i).toNat)
  case atStart => exact ⟨0, rfl, by omega, HB, fun i hi => absurd hi (by omega)⟩
  case round =>
    clear HB
    obtain ⟨k, rfl, hk, HB, HA'⟩ := hrel
    by_cases hlt : k < l.length
    · obtain rfl := HA.out (by omega)
      obtain ⟨e0, e1, e2, e3⟩ := HI.out k hlt
      have hz : b < w.heap.size := lt_of_cell e0
      replace e0 := (HB.out.cell (p := ⟨b, off + k * 4, none⟩) hz).trans e0
      replace e1 := (HB.out.cell (p := ⟨b, off + k * 4 + 1, none⟩) hz).trans e1
      replace e2 := (HB.out.cell (p := ⟨b, off + k * 4 + 2, none⟩) hz).trans e2
      replace e3 := (HB.out.cell (p := ⟨b, off + k * 4 + 3, none⟩) hz).trans e3
      obtain ⟨x, hx⟩ : ∃ x, (l.getD k default).name = x := ⟨_, rfl⟩
      rw [hx] at e0
      generalize (l.getD k default).params = pv at e1
      have hf := (HF.out k hlt).shapeT
      have hg := (HG.out k hlt).shapeT
      generalize f k = fv at e2 hf
      generalize g k = gv at e3 hg
      obtain ⟨fa, fn, fc, rfl⟩ := hf
      obtain ⟨ga, gn, gc, rfl⟩ := hg
      obtain ⟨t, ht⟩ : ∃ t, (x.toList == s.toList) = t := ⟨_, rfl⟩
      have HX := Lib.hid hx
      have HT := Lib.hid ht
      clear hx hz
      have hc3 : (k = 0 ∧ decide ((0 : Int) < k) = false) ∨ ((0 : Int) < k ∧ t = false) ∨ ((0 : Int) < k ∧ t = true) := by
        by_cases h : k = 0
        · exact .inl ⟨h, decide_eq_false (by omega)⟩
        · cases t
          · exact .inr (.inl ⟨by omega, rfl⟩)
          · exact .inr (.inr ⟨by omega, rfl⟩)
      rcases hc3 with ⟨hk0, hd0⟩ | ⟨hk0, rfl⟩ | ⟨hk0, rfl⟩
      · have HK0 := Lib.hid hk0
        have hd1 : ¬ 0 < k := by omega
        clear hk0
        go_wp2
        go_roundw
        case rel =>
          refine ⟨k + 1, by go_num, by omega, hb_alloc HB _, fun i hi => ?_⟩
          obtain rfl : i = 0 := by have := HK0.out; omega
          rfl
        case measure => simp [intOf]; omega
      · go_wp2
        go_roundw
        case rel =>
          refine ⟨k + 1, by go_num, by omega, hb_alloc HB _, fun i hi => ?_⟩
          rcases Nat.lt_or_ge i k with h | h
          · exact HA'.out i h
          · obtain rfl : i = k := by omega
            rw [HX.out, HT.out, Bool.and_false]
        case measure => simp [intOf]; omega
      · go_wp2
        go_ret
        obtain rfl : (k : Int) = q := by rw [← HQ.out]; exact (firstI_at hlt (by rw [HX.out, HT.out, decide_eq_true (show 0 < k by omega)]; rfl) HA'.out).symm
        exact ⟨rfl, (hb_alloc HB _).out⟩
    · obtain rfl : k = l.length := by omega
      go_wp2
      go_ret
      obtain rfl : (-1 : Int) = q := by rw [← HQ.out]; exact (firstI_no HA'.out).symm
      exact ⟨rfl, HB.out⟩
set_option maxHeartbeats 2000000 in
set_option maxRecDepth 1000000 in
theorem secret_r (s : ByteArray) (w : World) (q : Bool) (hq : secretB s = q) :
    Calls Tryd.prog 30 #[.string s] w fun e w' => e = .returned (.bool q) ∧ w' = w := by
  by_cases h0 : 0 < s.size
  · have hne : s.toList.isEmpty = false := by simpa using toList_ne h0
    obtain ⟨c, hc⟩ : ∃ c, byteAt s 0 = c := ⟨_, rfl⟩
    have hcc : ((s[0]'h0).toNat : Int) = c := by rw [← hc, byteAt_of s 0 h0]
    have HQ : Hid ((decide (65 ≤ c) && decide (c ≤ 90)) = q) := by
      show _ = _
      rw [← hq, ← hc]; unfold secretB; rw [decide_eq_true h0]; rfl
    clear hq hc
    have hcs : (decide (65 ≤ c) = false) ∨ (65 ≤ c ∧ decide (c ≤ 90) = false) ∨ (65 ≤ c ∧ c ≤ 90) := by
      by_cases h1 : 65 ≤ c
      · by_cases h2 : c ≤ 90
        · exact .inr (.inr ⟨h1, h2⟩)
        · exact .inr (.inl ⟨h1, decide_eq_false h2⟩)
      · exact .inl (decide_eq_false h1)
    rcases hcs with h1 | ⟨h1, h2⟩ | ⟨h1, h2⟩
    · obtain rfl : q = false := by rw [← HQ.out, h1]; rfl
      go_enter Tryd.func30, Tryd.ntmps30
      go_wp2
      go_ret
      exact ⟨rfl, rfl⟩
    · obtain rfl : q = false := by rw [← HQ.out, h2, Bool.and_false]
      go_enter Tryd.func30, Tryd.ntmps30
      go_wp2
      go_ret
      exact ⟨rfl, rfl⟩
    · obtain rfl : q = true := by rw [← HQ.out, decide_eq_true h1, decide_eq_true h2]; rfl
      go_enter Tryd.func30, Tryd.ntmps30
      go_wp2
      go_ret
      exact ⟨rfl, rfl⟩
  · have hl : s.toList.length = s.size := by rw [ByteArray.toList_eq]; cases s; rfl
    have he : s.toList = [] := List.eq_nil_of_length_eq_zero (by omega)
    clear hl
    obtain rfl : q = false := by rw [← hq]; unfold secretB; rw [decide_eq_false h0]; rfl
    clear hq h0
    go_enter Tryd.func30, Tryd.ntmps30
    go_wp2
    go_ret
    exact ⟨rfl, rfl⟩
end Go.Proofs.YthjjcmmonjajhaaDoor
