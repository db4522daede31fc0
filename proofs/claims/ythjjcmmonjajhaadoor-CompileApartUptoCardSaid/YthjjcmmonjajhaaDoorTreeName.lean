/- tree.Name computes nameB. -/
import Derived.Test.YthjjcmmonjajhaaDoorTreeKit
namespace Go.Proofs.YthjjcmmonjajhaaDoor
open Go.RowKit Go.Sort
set_option linter.unusedVariables false

def letterB (c : Int) : Bool := decide (65 ≤ c ∧ c ≤ 90) || decide (97 ≤ c ∧ c ≤ 122)
def innerB (c : Int) : Bool := letterB c || decide (48 ≤ c ∧ c ≤ 57) || decide (c = 95)
theorem letter_or (c : Int) (h0 : 0 ≤ c) (h1 : c ≤ 255) : ∃ d : Int, Go.bits .or .u8 c 32 = d ∧ ((97 ≤ d ∧ d ≤ 122 ∧ letterB c = true) ∨ (d < 97 ∧ letterB c = false) ∨ (97 ≤ d ∧ 122 < d ∧ letterB c = false)) := by
  have key : ∀ i : Fin 256, (97 ≤ Go.bits .or .u8 (i.val : Int) 32 ∧ Go.bits .or .u8 (i.val : Int) 32 ≤ 122 ∧ letterB (i.val : Int) = true) ∨ (Go.bits .or .u8 (i.val : Int) 32 < 97 ∧ letterB (i.val : Int) = false) ∨ (97 ≤ Go.bits .or .u8 (i.val : Int) 32 ∧ 122 < Go.bits .or .u8 (i.val : Int) 32 ∧ letterB (i.val : Int) = false) := by decide +kernel
  obtain ⟨n, rfl⟩ : ∃ n : Nat, c = (n : Int) := ⟨c.toNat, by omega⟩
  exact ⟨_, rfl, key ⟨n, by omega⟩⟩

set_option maxHeartbeats 1000000 in
set_option maxRecDepth 1000000 in
theorem letter_r (c : Int) (h0 : 0 ≤ c) (h1 : c ≤ 255) (b : Bool) (hb : letterB c = b) (w : World) :
    Calls Tryd.prog 54 #[.int .u8 c] w fun e w' => e = .returned (.bool b) ∧ w' = w := by
  obtain ⟨d, hd, hc⟩ := letter_or c h0 h1
  rcases hc with ⟨d1, d2, e⟩ | ⟨d1, e⟩ | ⟨d1, d2, e⟩
  rotate_left 2
  have d3 : ¬ d ≤ 122 := by omega
  clear d2
  rotate_left 1
  all_goals
    obtain rfl := hb.symm.trans e
    clear hb e
    go_enter Tryd.func54, Tryd.ntmps54
    go_wp2
    go_ret
    exact ⟨rfl, rfl⟩

theorem inner_cases (c : Int) : (letterB c = true ∧ innerB c = true) ∨ (letterB c = false ∧ (c < 48 ∧ (c == 95) = false) ∧ innerB c = false) ∨ (letterB c = false ∧ 48 ≤ c ∧ c ≤ 57 ∧ innerB c = true) ∨ (letterB c = false ∧ 48 ≤ c ∧ ¬ c ≤ 57 ∧ (c == 95) = true ∧ innerB c = true) ∨ (letterB c = false ∧ 48 ≤ c ∧ decide (c ≤ 57) = false ∧ (c == 95) = false ∧ innerB c = false) := by
  unfold innerB
  cases letterB c with
  | true => simp
  | false =>
    by_cases h1 : c < 48
    · right; left; refine ⟨rfl, ⟨h1, by simp; omega⟩, ?_⟩; simp; omega
    · by_cases h2 : c ≤ 57
      · right; right; left; refine ⟨rfl, by omega, h2, ?_⟩; simp; omega
      · by_cases h3 : c = 95
        · right; right; right; left; subst h3; simp
        · right; right; right; right; refine ⟨rfl, by omega, decide_eq_false h2, by simpa using h3, ?_⟩; simp; omega

set_option maxHeartbeats 1000000 in
set_option maxRecDepth 1000000 in
theorem inner_r (c : Int) (h0 : 0 ≤ c) (h1 : c ≤ 255) (b : Bool) (hb : innerB c = b) (w : World) :
    Calls Tryd.prog 59 #[.int .u8 c] w fun e w' => e = .returned (.bool b) ∧ w' = w := by
  rcases inner_cases c with ⟨l, e⟩ | ⟨l, ⟨d1, d4⟩, e⟩ | ⟨l, d1, d2, e⟩ | ⟨l, d1, d2, d3, e⟩ | ⟨l, d1, d2, d3, e⟩
  all_goals
    obtain rfl := hb.symm.trans e
    have HL := Lib.hid l
    clear hb e l
    go_enter Tryd.func59, Tryd.ntmps59
    go_wp2_with (go_at_call 54; refine (letter_r _ h0 h1 _ HL.out _).mono ?_; rintro e w' ⟨rfl, rfl⟩)
    go_ret
    exact ⟨rfl, rfl⟩

set_option maxHeartbeats 1000000 in
set_option maxRecDepth 1000000 in
theorem name1_r (c : Int) (h0 : 0 ≤ c) (h1 : c ≤ 255) (b : Bool) (hb : (!innerB c) = b) (w : World) :
    Calls Tryd.prog 58 #[.int .u8 c] w fun e w' => e = .returned (.bool b) ∧ w' = w := by
  obtain ⟨i, hi⟩ : ∃ i, innerB c = i := ⟨_, rfl⟩
  rw [hi] at hb
  subst hb
  have HI := Lib.hid hi
  clear hi
  cases i
  all_goals
    go_enter Tryd.func58, Tryd.ntmps58
    go_wp2_with (go_at_call 59; refine (inner_r _ h0 h1 _ HI.out _).mono ?_; rintro e w' ⟨rfl, rfl⟩)
    go_ret
    exact ⟨rfl, rfl⟩

def kwCells : Array Value := #[.string ⟨#[102, 117, 110, 99]⟩, .string ⟨#[97, 114, 114, 97, 121]⟩, .string ⟨#[105, 110, 112, 117, 116]⟩, .string ⟨#[112, 114, 105, 110, 116]⟩, .string ⟨#[107, 101, 101, 112]⟩, .string ⟨#[105, 102]⟩, .string ⟨#[101, 108, 115, 101]⟩, .string ⟨#[119, 104, 105, 108, 101]⟩, .string ⟨#[114, 101, 116, 117, 114, 110]⟩, .string ⟨#[99, 108, 111, 99, 107]⟩]
set_option maxHeartbeats 1000000 in
set_option maxRecDepth 1000000 in
theorem keywords_r (w : World) :
    Calls Tryd.prog 56 #[] w fun e w' => e = .returned (.slice (some ⟨w.heap.size, 0, none⟩) 10 10) ∧ w' = w.alloc (.cells kwCells 9) := by
  go_enter Tryd.func56, Tryd.ntmps56
  go_wp2
  go_ret
  exact ⟨rfl, rfl⟩

/-- Strings in a row of cells. -/
def StrIn (w : World) (b off : Nat) (l : List ByteArray) : Prop := ∀ i, i < l.length → w.cell? ⟨b, off + i, none⟩ = some (.string (l.getD i ByteArray.empty))

set_option maxHeartbeats 2000000 in
set_option maxRecDepth 1000000 in
theorem index_r (b off cap : Nat) (l : List ByteArray) (hl : l.length ≤ 1000000000) (hc : l.length ≤ cap) (s : ByteArray) (w : World) (hi : StrIn w b off l) :
    Calls Tryd.prog 47 #[.slice (some ⟨b, off, none⟩) l.length cap, .string s] w fun e w' => (∃ r : Int, e = .returned (.int .i64 r) ∧ decide (0 ≤ r) = l.any (fun x => s.toList == x.toList) ∧ -1 ≤ r ∧ r ≤ 1000000000) ∧ w' = w := by
  have HI := Lib.hid hi
  clear hi
  go_enter Tryd.func47, Tryd.ntmps47
  go_wp2
  go_loopw [8] (fun i wr => ∃ k : Nat, i = .int .i64 k ∧ k ≤ l.length ∧ wr = w ∧ Hid ((l.take k).any (fun x => s.toList == x.toList) = false)) (fun i _ => l.length - (intOf i).toNat)
  case atStart => exact ⟨0, rfl, by omega, rfl, by show _ = _; simp⟩
  case round =>
    obtain ⟨k, rfl, hk, rfl, HA⟩ := hrel
    by_cases hlt : k < l.length
    · have hcell := HI.out k hlt
      have htk : l.take (k + 1) = l.take k ++ [l.getD k ByteArray.empty] := by
        rw [List.take_succ_eq_append_getElem hlt, List.getD_eq_getElem?_getD, List.getElem?_eq_getElem hlt]; rfl
      have hmem : l.getD k ByteArray.empty ∈ l := by
        rw [List.getD_eq_getElem?_getD, List.getElem?_eq_getElem hlt]; exact List.getElem_mem _
      generalize l.getD k ByteArray.empty = x at hcell htk hmem
      obtain ⟨q, hq⟩ : ∃ q, (s.toList == x.toList) = q := ⟨_, rfl⟩
      have HQ := Lib.hid hq
      have HT := Lib.hid htk
      have HM := Lib.hid hmem
      clear htk hmem
      cases q with
      | true =>
        go_wp2
        go_ret
        refine ⟨⟨(k : Int), rfl, ?_, by omega, by omega⟩, rfl⟩
        rw [decide_eq_true (by omega)]
        exact (List.any_eq_true.2 ⟨x, HM.out, HQ.out⟩).symm
      | false =>
        go_wp2
        go_roundw
        case rel => exact ⟨k + 1, by go_num, by omega, trivial, by show _ = _; rw [HT.out, List.any_append, HA.out]; simp only [List.any_cons, List.any_nil, Bool.or_false, Bool.false_or]; exact HQ.out⟩
        case measure => simp [intOf]; omega
    · obtain rfl : k = l.length := by omega
      go_wp2
      go_ret
      refine ⟨⟨-1, rfl, ?_, by omega, by omega⟩, rfl⟩
      have := HA.out
      rw [List.take_length] at this
      rw [this]; rfl
end Go.Proofs.YthjjcmmonjajhaaDoor
