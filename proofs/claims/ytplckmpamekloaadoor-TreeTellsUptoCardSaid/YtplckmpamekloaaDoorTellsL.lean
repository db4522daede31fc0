/- The document's Letter, Digit, In, skip. -/
import Derived.Test.YtplckmpamekloaaDoorTreeName2
import Derived.Test.YtplckmpamekloaaDoorTreeRep
namespace Go.Proofs.YtplckmpamekloaaDoor
open Go.RowKit Go.Sort
set_option linter.unusedVariables false

def digitB (c : Int) : Bool := decide (48 ≤ c ∧ c ≤ 57)
theorem letter_cases (c : Int) : (c < 65 ∧ c < 97 ∧ letterB c = false) ∨ (65 ≤ c ∧ c ≤ 90 ∧ letterB c = true) ∨ (65 ≤ c ∧ decide (c ≤ 90) = false ∧ c < 97 ∧ letterB c = false) ∨ (65 ≤ c ∧ decide (c ≤ 90) = false ∧ 97 ≤ c ∧ c ≤ 122 ∧ letterB c = true) ∨ (65 ≤ c ∧ decide (c ≤ 90) = false ∧ 97 ≤ c ∧ decide (c ≤ 122) = false ∧ letterB c = false) := by
  unfold letterB
  by_cases h1 : c < 65
  · left; refine ⟨h1, by omega, ?_⟩; simp; omega
  · by_cases h2 : c ≤ 90
    · right; left; refine ⟨by omega, h2, ?_⟩; simp; omega
    · by_cases h3 : c < 97
      · right; right; left; refine ⟨by omega, decide_eq_false h2, h3, ?_⟩; simp; omega
      · by_cases h4 : c ≤ 122
        · right; right; right; left; refine ⟨by omega, decide_eq_false h2, by omega, h4, ?_⟩; simp; omega
        · right; right; right; right; refine ⟨by omega, decide_eq_false h2, by omega, decide_eq_false h4, ?_⟩; simp; omega
set_option maxHeartbeats 1000000 in
set_option maxRecDepth 1000000 in
theorem rletter_r (c : Int) (h0 : 0 ≤ c) (h1 : c ≤ 255) (b : Bool) (hb : letterB c = b) (w : World) :
    Calls Tryd.prog 63 #[.int .u8 c] w fun e w' => e = .returned (.bool b) ∧ w' = w := by
  rcases letter_cases c with ⟨d1, d2, e⟩ | ⟨d1, d2, e⟩ | ⟨d1, d2, d3, e⟩ | ⟨d1, d2, d3, d4, e⟩ | ⟨d1, d2, d3, d4, e⟩
  all_goals
    obtain rfl := hb.symm.trans e
    clear hb e
    go_enter Tryd.func63, Tryd.ntmps63
    go_wp2
    go_ret
    exact ⟨rfl, rfl⟩
set_option maxHeartbeats 1000000 in
set_option maxRecDepth 1000000 in
theorem rdigit_r (c : Int) (h0 : 0 ≤ c) (h1 : c ≤ 255) (b : Bool) (hb : digitB c = b) (w : World) :
    Calls Tryd.prog 64 #[.int .u8 c] w fun e w' => e = .returned (.bool b) ∧ w' = w := by
  have hc : (c < 48 ∧ digitB c = false) ∨ (48 ≤ c ∧ c ≤ 57 ∧ digitB c = true) ∨ (48 ≤ c ∧ ¬ c ≤ 57 ∧ digitB c = false) := by
    unfold digitB
    by_cases h1 : c < 48
    · left; exact ⟨h1, decide_eq_false (by omega)⟩
    · by_cases h2 : c ≤ 57
      · right; left; exact ⟨by omega, h2, decide_eq_true (by omega)⟩
      · right; right; exact ⟨by omega, h2, decide_eq_false (by omega)⟩
  rcases hc with ⟨d1, e⟩ | ⟨d1, d2, e⟩ | ⟨d1, d2, e⟩
  all_goals
    obtain rfl := hb.symm.trans e
    clear hb e
    go_enter Tryd.func64, Tryd.ntmps64
    go_wp2
    go_ret
    exact ⟨rfl, rfl⟩
/-- Is a byte one of a text's? -/
def inB (s : ByteArray) (c : Int) (k : Nat) : Bool := (List.range k).any fun i => byteAt s i == c
theorem inB_next (s : ByteArray) (c : Int) (k : Nat) : inB s c (k + 1) = (inB s c k || (byteAt s k == c)) := by
  unfold inB; rw [List.range_succ, List.any_append]; simp
theorem inB_mem (s : ByteArray) (c : Int) (n k : Nat) (hk : k < n) (h : (byteAt s k == c) = true) : inB s c n = true := by
  unfold inB; exact List.any_eq_true.2 ⟨k, List.mem_range.2 hk, h⟩
set_option maxHeartbeats 2000000 in
set_option maxRecDepth 1000000 in
theorem in_r (s : ByteArray) (hs : s.size ≤ 1000) (c : Int) (q : Bool) (hq : inB s c s.size = q) (w : World) :
    Calls Tryd.prog 62 #[.string s, .int .u8 c] w fun e w' => e = .returned (.bool q) ∧ w' = w := by
  have HQ := Lib.hid hq
  clear hq
  go_enter Tryd.func62, Tryd.ntmps62
  go_wp2
  go_loop [5] (fun i => ∃ k : Nat, i = .int .i64 k ∧ k ≤ s.size ∧ Hid (inB s c k = false)) (fun i => s.size - (intOf i).toNat)
  case atStart => exact ⟨0, rfl, by omega, rfl⟩
  case round =>
    obtain ⟨k, rfl, hk, HA⟩ := hrel
    by_cases hlt : k < s.size
    · have hnx := inB_next s c k
      have hmm := inB_mem s c s.size k hlt
      rw [byteAt_of s k hlt] at hnx hmm
      obtain ⟨t, ht⟩ : ∃ t, (((s[k]'hlt).toNat : Int) == c) = t := ⟨_, rfl⟩
      rw [ht] at hnx hmm
      have HN := Lib.hid hnx
      have HM := Lib.hid hmm
      clear hnx hmm
      cases t with
      | true =>
        go_wp2
        go_ret
        obtain rfl : q = true := by rw [← HQ.out, HM.out (by first | rfl | trivial)]
        exact ⟨rfl, rfl⟩
      | false =>
        go_wp2
        go_round
        case rel => exact ⟨k + 1, by go_num, by omega, by show _ = _; rw [HN.out, HA.out]; rfl⟩
        case measure => simp [intOf]; omega
    · obtain rfl : k = s.size := by omega
      go_wp2
      go_ret
      obtain rfl : q = false := by rw [← HQ.out, HA.out]
      exact ⟨rfl, rfl⟩
end Go.Proofs.YtplckmpamekloaaDoor
