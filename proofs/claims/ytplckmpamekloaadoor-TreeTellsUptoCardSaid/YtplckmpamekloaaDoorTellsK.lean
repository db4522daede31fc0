/- The document's skip. -/
import Derived.Test.YtplckmpamekloaaDoorTellsL
namespace Go.Proofs.YtplckmpamekloaaDoor
open Go.RowKit Go.Sort
set_option linter.unusedVariables false

theorem blank_not (c : Int) (h : inB ⟨#[9, 10, 13, 32]⟩ c 4 = true) : letterB c = false := by
  unfold inB at h
  obtain ⟨i, hi, hc⟩ := List.any_eq_true.1 h
  have hi' := List.mem_range.1 hi
  have hcc : byteAt ⟨#[9, 10, 13, 32]⟩ i = c := by simpa using hc
  subst hcc
  have : i = 0 ∨ i = 1 ∨ i = 2 ∨ i = 3 := by omega
  rcases this with rfl | rfl | rfl | rfl <;> decide +kernel
/-- Where what is told next may begin. -/
def SkipTo (s : ByteArray) (n k : Nat) : Prop := n < s.size → letterB (byteAt s n) = true → k = n
set_option maxHeartbeats 4000000 in
set_option maxRecDepth 1000000 in
theorem skip_r (s : ByteArray) (hs : s.size ≤ 70000) (n : Nat) (hn : n ≤ s.size) (w : World) :
    Calls Tryd.prog 56 #[.string s, .int .i64 n] w fun e w' => (∃ r : Nat, e = .returned (.int .i64 r) ∧ n ≤ r ∧ r ≤ s.size ∧ SkipTo s n r) ∧ w' = w := by
  go_enter Tryd.func56, Tryd.ntmps56
  go_wp2
  go_loop [1] (fun i => ∃ k : Nat, i = .int .i64 k ∧ n ≤ k ∧ k ≤ s.size ∧ Hid (SkipTo s n k)) (fun i => s.size - (intOf i).toNat)
  case atStart => exact ⟨n, rfl, by omega, hn, fun _ _ => rfl⟩
  case round =>
    obtain ⟨k, rfl, hk0, hk, HA⟩ := hrel
    by_cases hlt : k < s.size
    · have hbk := byteAt_of s k hlt
      obtain ⟨t, ht⟩ : ∃ t, (((s[k]'hlt).toNat : Int) == 35) = t := ⟨_, rfl⟩
      have HBK := Lib.hid hbk
      clear hbk
      cases t with
      | true =>
        have H35 : Hid (byteAt s k = 35) := by show _ = _; rw [HBK.out]; simpa using ht
        have HNL : Hid (∀ j, SkipTo s n j) := fun j h1 h2 => by
          have e := HA.out h1 h2
          subst e
          rw [H35.out] at h2
          exact absurd h2 (by decide)
        go_wp2_with fail
        go_loop [1] (fun i => ∃ j : Nat, i = .int .i64 j ∧ k ≤ j ∧ j ≤ s.size) (fun i => s.size - (intOf i).toNat)
        case atStart => exact ⟨k, rfl, by omega, by omega⟩
        case round =>
          clear ht
          obtain ⟨j, rfl, hj0, hj⟩ := hrel
          by_cases hjt : j < s.size
          · have hbj := byteAt_of s j hjt
            obtain ⟨t, ht⟩ : ∃ t, (((s[j]'hjt).toNat : Int) != 10) = t := ⟨_, rfl⟩
            have HBJ := Lib.hid hbj
            clear hbj
            cases t with
            | true =>
              go_wp2
              go_round
              case rel => exact ⟨j + 1, by go_num, by omega, by omega⟩
              case measure => simp [intOf]; omega
            | false =>
              have hjk : k < j := by
                rcases Nat.lt_or_ge k j with h | h
                · exact h
                · obtain rfl : j = k := by omega
                  have h1 := H35.out
                  rw [HBJ.out] at h1
                  rw [h1] at ht
                  exact absurd ht (by decide)
              go_wp2
              go_round
              case rel => exact ⟨j, rfl, by omega, by omega, HNL.out j⟩
              case measure => simp [intOf]; omega
          · obtain rfl : j = s.size := by omega
            go_wp2
            go_round
            case rel => exact ⟨s.size, rfl, by omega, by omega, HNL.out _⟩
            case measure => simp [intOf]; omega
      | false =>
        obtain ⟨q, hq⟩ : ∃ q, inB ⟨#[9, 10, 13, 32]⟩ ((s[k]'hlt).toNat : Int) 4 = q := ⟨_, rfl⟩
        have HQ := Lib.hid hq
        clear hq
        cases q with
        | false =>
          go_wp2_with (go_at_call 62; refine (in_r _ (by decide) _ _ HQ.out _).mono ?_; rintro e w' ⟨rfl, rfl⟩)
          go_ret
          exact ⟨⟨k, rfl, hk0, hk, HA.out⟩, rfl⟩
        | true =>
          have HNL : Hid (SkipTo s n (k + 1)) := fun h1 h2 => by
            have e := HA.out h1 h2
            subst e
            rw [HBK.out, blank_not _ HQ.out] at h2
            cases h2
          go_wp2_with (go_at_call 62; refine (in_r _ (by decide) _ _ HQ.out _).mono ?_; rintro e w' ⟨rfl, rfl⟩)
          go_round
          case rel => exact ⟨k + 1, by go_num, by omega, by omega, HNL⟩
          case measure => simp [intOf]; omega
    · obtain rfl : k = s.size := by omega
      go_wp2
      go_ret
      exact ⟨⟨s.size, rfl, hk0, hk, HA.out⟩, rfl⟩
end Go.Proofs.YtplckmpamekloaaDoor
