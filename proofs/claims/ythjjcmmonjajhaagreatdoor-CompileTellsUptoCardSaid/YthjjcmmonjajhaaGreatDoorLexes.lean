/- The document's Letter, Digit, In, skip. The document's skip. Small laws for the texts of the document's Right. The document's next. The document's Lex, as far as Name asks. The walk of the document's Lex. The document's Name. -/
import Derived.Test.YthjjcmmonjajhaaGreatDoorTrees
import Derived.Test.YthjjcmmonjajhaaGreatDoorFlows
import Derived.Test.YthjjcmmonjajhaaGreatDoorTreeOpen
import Derived.Test.YthjjcmmonjajhaaGreatDoorCompStmts
namespace Go.Proofs.YthjjcmmonjajhaaGreatDoor
open Go.RowKit Go.Sort
set_option linter.unusedVariables false

def digitB (c : Int) : Bool := decide (48 ≤ c ∧ c ≤ 57)
theorem letter_cases (c : Int) : (c < 65 ∧ c < 97 ∧ letterB c = false) ∨ (65 ≤ c ∧ c ≤ 90 ∧ letterB c = true) ∨ (65 ≤ c ∧ decide (c ≤ 90) = false ∧ c < 97 ∧ letterB c = false) ∨ (65 ≤ c ∧ decide (c ≤ 90) = false ∧ 97 ≤ c ∧ c ≤ 122 ∧ letterB c = true) ∨ (65 ≤ c ∧ decide (c ≤ 90) = false ∧ 97 ≤ c ∧ decide (c ≤ 122) = false ∧ letterB c = false) := by
  unfold letterB
  by_cases h1 : c < 65
  · left; refine ⟨h1, by omega, ?_⟩; simp; omega
  · by_cases h2 : c ≤ 90
    · right; left; refine ⟨by omega, h2, ?_⟩; simp; omega
    · by_cases h3 : c < 97
      · right; right; left; refine ⟨by omega, decide_eq_false h2, h3, ?_⟩; simp; omega
      · by_cases h4 : c ≤ 122
        · right; right; right; left; refine ⟨by omega, decide_eq_false h2, by omega, h4, ?_⟩; simp; omega
        · right; right; right; right; refine ⟨by omega, decide_eq_false h2, by omega, decide_eq_false h4, ?_⟩; simp; omega
set_option maxHeartbeats 1000000 in
set_option maxRecDepth 1000000 in
theorem rletter_r (c : Int) (h0 : 0 ≤ c) (h1 : c ≤ 255) (b : Bool) (hb : letterB c = b) (w : World) :
    Calls Tryz.prog 96 #[.int .u8 c] w fun e w' => e = .returned (.bool b) ∧ w' = w := by
  rcases letter_cases c with ⟨d1, d2, e⟩ | ⟨d1, d2, e⟩ | ⟨d1, d2, d3, e⟩ | ⟨d1, d2, d3, d4, e⟩ | ⟨d1, d2, d3, d4, e⟩
  all_goals
    obtain rfl := hb.symm.trans e
    clear hb e
    go_enter Tryz.func96, Tryz.ntmps96
    go_wp2
    go_ret
    exact ⟨rfl, rfl⟩
set_option maxHeartbeats 1000000 in
set_option maxRecDepth 1000000 in
theorem rdigit_r (c : Int) (h0 : 0 ≤ c) (h1 : c ≤ 255) (b : Bool) (hb : digitB c = b) (w : World) :
    Calls Tryz.prog 97 #[.int .u8 c] w fun e w' => e = .returned (.bool b) ∧ w' = w := by
  have hc : (c < 48 ∧ digitB c = false) ∨ (48 ≤ c ∧ c ≤ 57 ∧ digitB c = true) ∨ (48 ≤ c ∧ ¬ c ≤ 57 ∧ digitB c = false) := by
    unfold digitB
    by_cases h1 : c < 48
    · left; exact ⟨h1, decide_eq_false (by omega)⟩
    · by_cases h2 : c ≤ 57
      · right; left; exact ⟨by omega, h2, decide_eq_true (by omega)⟩
      · right; right; exact ⟨by omega, h2, decide_eq_false (by omega)⟩
  rcases hc with ⟨d1, e⟩ | ⟨d1, d2, e⟩ | ⟨d1, d2, e⟩
  all_goals
    obtain rfl := hb.symm.trans e
    clear hb e
    go_enter Tryz.func97, Tryz.ntmps97
    go_wp2
    go_ret
    exact ⟨rfl, rfl⟩
/-- Is a byte one of a text's? -/
def inB (s : ByteArray) (c : Int) (k : Nat) : Bool := (List.range k).any fun i => byteAt s i == c
theorem inB_next (s : ByteArray) (c : Int) (k : Nat) : inB s c (k + 1) = (inB s c k || (byteAt s k == c)) := by
  unfold inB; rw [List.range_succ, List.any_append]; simp
theorem inB_mem (s : ByteArray) (c : Int) (n k : Nat) (hk : k < n) (h : (byteAt s k == c) = true) : inB s c n = true := by
  unfold inB; exact List.any_eq_true.2 ⟨k, List.mem_range.2 hk, h⟩
set_option maxHeartbeats 2000000 in
set_option maxRecDepth 1000000 in
theorem in_r (s : ByteArray) (hs : s.size ≤ 1000) (c : Int) (q : Bool) (hq : inB s c s.size = q) (w : World) :
    Calls Tryz.prog 95 #[.string s, .int .u8 c] w fun e w' => e = .returned (.bool q) ∧ w' = w := by
  have HQ := Lib.hid hq
  clear hq
  go_enter Tryz.func95, Tryz.ntmps95
  go_wp2
  go_loop [5] (fun i => ∃ k : Nat, i = .int .i64 k ∧ k ≤ s.size ∧ Hid (inB s c k = false)) (fun i => s.size - (intOf i).toNat)
  case atStart => exact ⟨0, rfl, by omega, rfl⟩
  case round =>
    obtain ⟨k, rfl, hk, HA⟩ := hrel
    by_cases hlt : k < s.size
    · have hnx := inB_next s c k
      have hmm := inB_mem s c s.size k hlt
      rw [byteAt_of s k hlt] at hnx hmm
      obtain ⟨t, ht⟩ : ∃ t, (((s[k]'hlt).toNat : Int) == c) = t := ⟨_, rfl⟩
      rw [ht] at hnx hmm
      have HN := Lib.hid hnx
      have HM := Lib.hid hmm
      clear hnx hmm
      cases t with
      | true =>
        go_wp2
        go_ret
        obtain rfl : q = true := by rw [← HQ.out, HM.out (by first | rfl | trivial)]
        exact ⟨rfl, rfl⟩
      | false =>
        go_wp2
        go_round
        case rel => exact ⟨k + 1, by go_num, by omega, by show _ = _; rw [HN.out, HA.out]; rfl⟩
        case measure => simp [intOf]; omega
    · obtain rfl : k = s.size := by omega
      go_wp2
      go_ret
      obtain rfl : q = false := by rw [← HQ.out, HA.out]
      exact ⟨rfl, rfl⟩
end Go.Proofs.YthjjcmmonjajhaaGreatDoor
namespace Go.Proofs.YthjjcmmonjajhaaGreatDoor
open Go.RowKit Go.Sort
set_option linter.unusedVariables false

theorem blank_not (c : Int) (h : inB ⟨#[9, 10, 13, 32]⟩ c 4 = true) : letterB c = false := by
  unfold inB at h
  obtain ⟨i, hi, hc⟩ := List.any_eq_true.1 h
  have hi' := List.mem_range.1 hi
  have hcc : byteAt ⟨#[9, 10, 13, 32]⟩ i = c := by simpa using hc
  subst hcc
  have : i = 0 ∨ i = 1 ∨ i = 2 ∨ i = 3 := by omega
  rcases this with rfl | rfl | rfl | rfl <;> decide +kernel
/-- Where what is told next may begin. -/
def SkipTo (s : ByteArray) (n k : Nat) : Prop := n < s.size → letterB (byteAt s n) = true → k = n
set_option maxHeartbeats 4000000 in
set_option maxRecDepth 1000000 in
theorem skip_r (s : ByteArray) (hs : s.size ≤ 70000) (n : Nat) (hn : n ≤ s.size) (w : World) :
    Calls Tryz.prog 84 #[.string s, .int .i64 n] w fun e w' => (∃ r : Nat, e = .returned (.int .i64 r) ∧ n ≤ r ∧ r ≤ s.size ∧ SkipTo s n r) ∧ w' = w := by
  go_enter Tryz.func84, Tryz.ntmps84
  go_wp2
  go_loop [1] (fun i => ∃ k : Nat, i = .int .i64 k ∧ n ≤ k ∧ k ≤ s.size ∧ Hid (SkipTo s n k)) (fun i => s.size - (intOf i).toNat)
  case atStart => exact ⟨n, rfl, by omega, hn, fun _ _ => rfl⟩
  case round =>
    obtain ⟨k, rfl, hk0, hk, HA⟩ := hrel
    by_cases hlt : k < s.size
    · have hbk := byteAt_of s k hlt
      obtain ⟨t, ht⟩ : ∃ t, (((s[k]'hlt).toNat : Int) == 35) = t := ⟨_, rfl⟩
      have HBK := Lib.hid hbk
      clear hbk
      cases t with
      | true =>
        have H35 : Hid (byteAt s k = 35) := by show _ = _; rw [HBK.out]; simpa using ht
        have HNL : Hid (∀ j, SkipTo s n j) := fun j h1 h2 => by
          have e := HA.out h1 h2
          subst e
          rw [H35.out] at h2
          exact absurd h2 (by decide)
        go_wp2_with fail
        go_loop [1] (fun i => ∃ j : Nat, i = .int .i64 j ∧ k ≤ j ∧ j ≤ s.size) (fun i => s.size - (intOf i).toNat)
        case atStart => exact ⟨k, rfl, by omega, by omega⟩
        case round =>
          clear ht
          obtain ⟨j, rfl, hj0, hj⟩ := hrel
          by_cases hjt : j < s.size
          · have hbj := byteAt_of s j hjt
            obtain ⟨t, ht⟩ : ∃ t, (((s[j]'hjt).toNat : Int) != 10) = t := ⟨_, rfl⟩
            have HBJ := Lib.hid hbj
            clear hbj
            cases t with
            | true =>
              go_wp2
              go_round
              case rel => exact ⟨j + 1, by go_num, by omega, by omega⟩
              case measure => simp [intOf]; omega
            | false =>
              have hjk : k < j := by
                rcases Nat.lt_or_ge k j with h | h
                · exact h
                · obtain rfl : j = k := by omega
                  have h1 := H35.out
                  rw [HBJ.out] at h1
                  rw [h1] at ht
                  exact absurd ht (by decide)
              go_wp2
              go_round
              case rel => exact ⟨j, rfl, by omega, by omega, HNL.out j⟩
              case measure => simp [intOf]; omega
          · obtain rfl : j = s.size := by omega
            go_wp2
            go_round
            case rel => exact ⟨s.size, rfl, by omega, by omega, HNL.out _⟩
            case measure => simp [intOf]; omega
      | false =>
        obtain ⟨q, hq⟩ : ∃ q, inB ⟨#[9, 10, 13, 32]⟩ ((s[k]'hlt).toNat : Int) 4 = q := ⟨_, rfl⟩
        have HQ := Lib.hid hq
        clear hq
        cases q with
        | false =>
          go_wp2_with (go_at_call 95; refine (in_r _ (by decide) _ _ HQ.out _).mono ?_; rintro e w' ⟨rfl, rfl⟩)
          go_ret
          exact ⟨⟨k, rfl, hk0, hk, HA.out⟩, rfl⟩
        | true =>
          have HNL : Hid (SkipTo s n (k + 1)) := fun h1 h2 => by
            have e := HA.out h1 h2
            subst e
            rw [HBK.out, blank_not _ HQ.out] at h2
            cases h2
          go_wp2_with (go_at_call 95; refine (in_r _ (by decide) _ _ HQ.out _).mono ?_; rintro e w' ⟨rfl, rfl⟩)
          go_round
          case rel => exact ⟨k + 1, by go_num, by omega, by omega, HNL⟩
          case measure => simp [intOf]; omega
    · obtain rfl : k = s.size := by omega
      go_wp2
      go_ret
      exact ⟨⟨s.size, rfl, hk0, hk, HA.out⟩, rfl⟩
end Go.Proofs.YthjjcmmonjajhaaGreatDoor
namespace Go.Proofs.YthjjcmmonjajhaaGreatDoor
open Go.RowKit Go.Sort
set_option linter.unusedVariables false
theorem cell_below {w1 W : World} {b o : Nat} {v : Value} (h : Hid (Below w1.heap.size w1 W)) (hc : w1.cell? ⟨b, o, none⟩ = some v) : W.cell? ⟨b, o, none⟩ = some v := (h.out.cell (p := ⟨b, o, none⟩) (lt_of_cell hc)).trans hc
theorem own_empty (w : World) (base : Nat) (e : TypeId) (size : Nat) (hb : base ≤ w.heap.size) : (w.alloc (.cells #[] e)).ownsRow base e size (.slice (some ⟨w.heap.size, 0, none⟩) 0 0) 0 [] :=
  ⟨by simp, .inr ⟨w.heap.size, 0, #[], rfl, hb, World.alloc_heap_new w _, Nat.le_refl _, Nat.zero_le _, by simp, by simp⟩⟩
theorem own_hold {w w' : World} {base : Nat} {e : TypeId} {size n : Nat} {v : Value} {xs : List Value} (h : w.ownsRow base e size v n xs) (hb : Below w.heap.size w w') : w'.ownsRow base e size v n xs :=
  h.kept (grown_of_below hb) (by cases v.ownBlock <;> simp)
theorem TSl.shape0 {w : World} {v : Value} {l : List ByteArray} (h : TSl w v l) : ∃ a cap, v = .slice a l.length cap := by cases h; exact ⟨_, _, rfl⟩
theorem FSl.shape0 {w : World} {v : Value} {l : List FT} (h : FSl w v l) : ∃ a cap, v = .slice a l.length cap := by cases h; exact ⟨_, _, rfl⟩
theorem TSl.row {w : World} {v : Value} {l : List ByteArray} (h : TSl w v l) : ∃ a b off cap, v = .slice a l.length cap ∧ At a l.length b off ∧ l.length ≤ cap ∧ cap ≤ 9223372036854775807 ∧ ∀ i, i < l.length → w.cell? ⟨b, off + i, none⟩ = some (.string (l.getD i ByteArray.empty)) := by
  cases h with
  | mk a b off cap l ha hc hm hcell => exact ⟨a, b, off, cap, rfl, ha, hc, hm, hcell⟩
end Go.Proofs.YthjjcmmonjajhaaGreatDoor
namespace Go.Proofs.YthjjcmmonjajhaaGreatDoor
open Go.RowKit Go.Sort
set_option linter.unusedVariables false

theorem results_cell_row_tmp {P : Program} {fn : Func} {p u : Tmp} {ty : TypeId} (h : fn.results = #[.cell p ty, .tmp u]) (tmps : Array Value) (w : World) (g : Nat) (t : TypeId) (cs : Array Value) (fr : Nat × Nat) (d : TypeDesc)
    (hp : tmps.getD p undef = .pointer (some ⟨g, 0, none⟩)) (hg : w.heap[g]? = some (.cells cs t fr))
    (hu : P.underlying ty = some d) (hd : (match d with | .struct _ | .array _ _ => true | _ => false) = true) (hi : (P.info? ty).map (·.size) = some cs.size) :
    (results fn tmps).run P w = .ok (.tuple #[.agg cs, tmps.getD u undef]) w := by
  have hp' : tmps[p]?.getD undef = .pointer (some ⟨g, 0, none⟩) := by simpa using hp
  simp [results, h, hp', asAddr, Result.andThen, run_loadVar_row w g t ty cs fr d hg hu hd hi]

/-- What is told of a token. -/
def NextRes (s : ByteArray) (n : Nat) (kind : Int) (text : ByteArray) (wrong : Int) : Prop :=
  (letterB (byteAt s n) = true → ∃ m, n < m ∧ m ≤ s.size ∧ (∀ i, n < i → i < m → innerB (byteAt s i) = true) ∧ (m < s.size → innerB (byteAt s m) = false) ∧ ((32 < m - n ∧ wrong = n) ∨ (m - n ≤ 32 ∧ wrong = -1 ∧ kind = 1 ∧ text = s.extract n m))) ∧
  (letterB (byteAt s n) = false → (0 ≤ wrong ∨ kind ≠ 1)) ∧ (wrong < 0 → 0 < text.size ∧ n + text.size ≤ s.size) ∧ -1 ≤ wrong
theorem inner_eq (c : Int) : innerB c = (letterB c || (digitB c || (c == 95))) := by
  unfold innerB digitB
  have : (c == 95) = decide (c = 95) := by by_cases h : c = 95 <;> simp [h]
  rw [this, Bool.or_assoc]

theorem next_long {s : ByteArray} {n j : Nat} (hl : letterB (byteAt s n) = true) (h1 : n < j) (h2 : j ≤ s.size) (h3 : ∀ i, n < i → i < j → innerB (byteAt s i) = true) (h4 : j < s.size → innerB (byteAt s j) = false) (h : 32 < j - n) (k : Int) (t : ByteArray) : NextRes s n k t n :=
  ⟨fun _ => ⟨j, h1, h2, h3, h4, .inl ⟨h, rfl⟩⟩, fun e => (by rw [hl] at e; cases e), fun e => (by omega), by omega⟩
theorem next_word {s : ByteArray} {n j : Nat} (hl : letterB (byteAt s n) = true) (h1 : n < j) (h2 : j ≤ s.size) (h3 : ∀ i, n < i → i < j → innerB (byteAt s i) = true) (h4 : j < s.size → innerB (byteAt s j) = false) (h : ¬ 32 < j - n) : NextRes s n 1 (s.extract n j) (-1) :=
  ⟨fun _ => ⟨j, h1, h2, h3, h4, .inr ⟨by omega, rfl, rfl, rfl⟩⟩, fun e => (by rw [hl] at e; cases e), fun _ => (by rw [ByteArray.size_extract]; omega), by omega⟩
theorem next_other {s : ByteArray} {n : Nat} (hl : letterB (byteAt s n) = false) {k : Int} (hk : k ≠ 1) {t : ByteArray} {r : Int} (h : r < 0 → 0 < t.size ∧ n + t.size ≤ s.size) (hr : -1 ≤ r) : NextRes s n k t r :=
  ⟨fun e => (by rw [hl] at e; cases e), fun _ => .inr hk, h, hr⟩

set_option maxHeartbeats 8000000 in
set_option maxRecDepth 1000000 in
theorem next_letter (s : ByteArray) (hs : s.size ≤ 70000) (n : Nat) (hn : n < s.size) (hl : letterB (byteAt s n) = true) (w : World) :
    Calls Tryz.prog 85 #[.string s, .int .i64 n] w fun e w' => (∃ (kind : Int) (text : ByteArray) (at_ : Int) (wrong : Int), e = .returned (.tuple #[.agg #[.int .i64 kind, .string text, .int .i64 at_], .int .i64 wrong]) ∧ NextRes s n kind text wrong) ∧ Below w.heap.size w w' := by
  obtain ⟨x0, x1⟩ := byteAt_range s n
  rw [byteAt_of s n hn] at x0 x1
  have hl0 := hl
  rw [byteAt_of s n hn] at hl
  obtain ⟨dg, hdg⟩ : ∃ b, digitB ((s[n]'hn).toNat : Int) = b := ⟨_, rfl⟩
  have HL := Lib.hid hl
  have HL0 := Lib.hid hl0
  have HDG := Lib.hid hdg
  clear hl hl0 hdg
  go_enter Tryz.func85, Tryz.ntmps85
  go_wp2_with (first
    | (go_at_call 96; refine (rletter_r _ x0 x1 _ HL.out _).mono ?_; rintro e w' ⟨rfl, rfl⟩)
    | (go_at_call 97; refine (rdigit_r _ x0 x1 _ HDG.out _).mono ?_; rintro e w' ⟨rfl, rfl⟩))
  go_loop [8] (fun i => ∃ j : Nat, i = .int .i64 j ∧ n + 1 ≤ j ∧ j ≤ s.size ∧ Hid (∀ i, n < i → i < j → innerB (byteAt s i) = true)) (fun i => s.size - (intOf i).toNat)
  case atStart => exact ⟨n + 1, by go_num, by omega, by omega, fun i h1 h2 => by omega⟩
  case round =>
    obtain ⟨j, rfl, hj0, hj, HA⟩ := hrel
    by_cases hjt : j < s.size
    · obtain ⟨y0, y1⟩ := byteAt_range s j
      have hbj := byteAt_of s j hjt
      rw [hbj] at y0 y1
      obtain ⟨b1, g1⟩ : ∃ b, letterB ((s[j]'hjt).toNat : Int) = b := ⟨_, rfl⟩
      obtain ⟨b2, g2⟩ : ∃ b, digitB ((s[j]'hjt).toNat : Int) = b := ⟨_, rfl⟩
      obtain ⟨b3, g3⟩ : ∃ b, (((s[j]'hjt).toNat : Int) == 95) = b := ⟨_, rfl⟩
      have HIN : Hid (innerB (byteAt s j) = (b1 || (b2 || b3))) := by show _ = _; rw [hbj, inner_eq, g1, g2, g3]
      have G1 := Lib.hid g1
      have G2 := Lib.hid g2
      have G3 := Lib.hid g3
      clear g1 g2 g3 hbj
      by_cases hin : (b1 || (b2 || b3)) = true
      · have HN : Hid (∀ i, n < i → i < j + 1 → innerB (byteAt s i) = true) := fun i h1 h2 => by
          rcases Nat.lt_or_ge i j with h | h
          · exact HA.out i h1 h
          · obtain rfl : i = j := by omega
            rw [HIN.out, hin]
        have h95 := G3.out
        cases b1 <;> cases b2 <;> cases b3
        all_goals first
          | (exfalso; revert hin; decide)
          | (clear hin
             go_wp2_with (first
              | (go_at_call 96; refine (rletter_r _ y0 y1 _ G1.out _).mono ?_; rintro e w' ⟨rfl, rfl⟩)
              | (go_at_call 97; refine (rdigit_r _ y0 y1 _ G2.out _).mono ?_; rintro e w' ⟨rfl, rfl⟩))
             go_round
             case rel => exact ⟨j + 1, by go_num, by omega, by omega, HN⟩
             case measure => simp [intOf]; omega)
      · obtain ⟨rfl, rfl, rfl⟩ : b1 = false ∧ b2 = false ∧ b3 = false := by revert hin; cases b1 <;> cases b2 <;> cases b3 <;> simp
        clear hin
        have h95 := G3.out
        have HMM : Hid (j < s.size → innerB (byteAt s j) = false) := fun _ => HIN.out
        by_cases h32 : 32 < j - n
        · have HH := Lib.hid h32
          have h32' : (32 : Int) < (j : Int) - (n : Int) := by omega
          go_wp2_with (first
              | (go_at_call 96; refine (rletter_r _ y0 y1 _ G1.out _).mono ?_; rintro e w' ⟨rfl, rfl⟩)
              | (go_at_call 97; refine (rdigit_r _ y0 y1 _ G2.out _).mono ?_; rintro e w' ⟨rfl, rfl⟩))
          refine bodyPost_ret (results_cell_row_tmp rfl _ _ w.heap.size 140 #[.int .i64 0, .string ⟨#[]⟩, .int .i64 0] (0, 0) _ rfl (heap_alloc_new _ _) Tryz.underlying140 rfl rfl) rfl ?_
          exact ⟨⟨0, ⟨#[]⟩, 0, n, rfl, next_long HL0.out (by omega) (by omega) HA.out HMM.out HH.out _ _⟩, (Below.refl _ _).alloc (Nat.le_refl _) _⟩
        · have HH := Lib.hid h32
          have h32' : decide ((32 : Int) < (j : Int) - (n : Int)) = false := decide_eq_false (by omega)
          go_wp2_with (first
              | (go_at_call 96; refine (rletter_r _ y0 y1 _ G1.out _).mono ?_; rintro e w' ⟨rfl, rfl⟩)
              | (go_at_call 97; refine (rdigit_r _ y0 y1 _ G2.out _).mono ?_; rintro e w' ⟨rfl, rfl⟩))
          refine bodyPost_ret (results_cell_row_tmp rfl _ _ w.heap.size 140 #[.int .i64 1, .string (s.extract n j), .int .i64 n] (0, 0) _ rfl (heap_alloc_new _ _) Tryz.underlying140 rfl rfl) rfl ?_
          exact ⟨⟨1, s.extract n j, n, -1, rfl, next_word HL0.out (by omega) (by omega) HA.out HMM.out HH.out⟩, (Below.refl _ _).alloc (Nat.le_refl _) _⟩
    · have hje : j = s.size := by omega
      have HMM : Hid (j < s.size → innerB (byteAt s j) = false) := fun h => absurd h (by omega)
      by_cases h32 : 32 < j - n
      · have HH := Lib.hid h32
        have h32' : (32 : Int) < (j : Int) - (n : Int) := by omega
        have hno : decide ((j : Int) < (s.size : Int)) = false := decide_eq_false (by omega)
        clear hje
        go_wp2
        refine bodyPost_ret (results_cell_row_tmp rfl _ _ w.heap.size 140 #[.int .i64 0, .string ⟨#[]⟩, .int .i64 0] (0, 0) _ rfl (heap_alloc_new _ _) Tryz.underlying140 rfl rfl) rfl ?_
        exact ⟨⟨0, ⟨#[]⟩, 0, n, rfl, next_long HL0.out (by omega) (by omega) HA.out HMM.out HH.out _ _⟩, (Below.refl _ _).alloc (Nat.le_refl _) _⟩
      · have HH := Lib.hid h32
        have h32' : decide ((32 : Int) < (j : Int) - (n : Int)) = false := decide_eq_false (by omega)
        have hno : decide ((j : Int) < (s.size : Int)) = false := decide_eq_false (by omega)
        clear hje
        go_wp2
        refine bodyPost_ret (results_cell_row_tmp rfl _ _ w.heap.size 140 #[.int .i64 1, .string (s.extract n j), .int .i64 n] (0, 0) _ rfl (heap_alloc_new _ _) Tryz.underlying140 rfl rfl) rfl ?_
        exact ⟨⟨1, s.extract n j, n, -1, rfl, next_word HL0.out (by omega) (by omega) HA.out HMM.out HH.out⟩, (Below.refl _ _).alloc (Nat.le_refl _) _⟩

set_option maxHeartbeats 8000000 in
set_option maxRecDepth 1000000 in
theorem next_digit (s : ByteArray) (hs : s.size ≤ 70000) (n : Nat) (hn : n < s.size) (hl : letterB (byteAt s n) = false) (hd : digitB (byteAt s n) = true) (w : World) :
    Calls Tryz.prog 85 #[.string s, .int .i64 n] w fun e w' => (∃ (kind : Int) (text : ByteArray) (at_ : Int) (wrong : Int), e = .returned (.tuple #[.agg #[.int .i64 kind, .string text, .int .i64 at_], .int .i64 wrong]) ∧ NextRes s n kind text wrong) ∧ Below w.heap.size w w' := by
  obtain ⟨x0, x1⟩ := byteAt_range s n
  rw [byteAt_of s n hn] at x0 x1 hd
  have hl0 := hl
  rw [byteAt_of s n hn] at hl
  have HL := Lib.hid hl
  have HL0 := Lib.hid hl0
  have HDG := Lib.hid hd
  clear hl hl0 hd
  go_enter Tryz.func85, Tryz.ntmps85
  go_wp2_with (first
    | (go_at_call 96; refine (rletter_r _ x0 x1 _ HL.out _).mono ?_; rintro e w' ⟨rfl, rfl⟩)
    | (go_at_call 97; refine (rdigit_r _ x0 x1 _ HDG.out _).mono ?_; rintro e w' ⟨rfl, rfl⟩))
  go_loop [8] (fun i => ∃ j : Nat, i = .int .i64 j ∧ n + 1 ≤ j ∧ j ≤ s.size) (fun i => s.size - (intOf i).toNat)
  case atStart => exact ⟨n + 1, by go_num, by omega, by omega⟩
  case round =>
    obtain ⟨j, rfl, hj0, hj⟩ := hrel
    by_cases hjt : j < s.size
    · obtain ⟨y0, y1⟩ := byteAt_range s j
      rw [byteAt_of s j hjt] at y0 y1
      obtain ⟨b2, g2⟩ : ∃ b, digitB ((s[j]'hjt).toNat : Int) = b := ⟨_, rfl⟩
      obtain ⟨b1, g1⟩ : ∃ b, letterB ((s[j]'hjt).toNat : Int) = b := ⟨_, rfl⟩
      obtain ⟨b3, h95⟩ : ∃ b, (((s[j]'hjt).toNat : Int) == 95) = b := ⟨_, rfl⟩
      have G1 := Lib.hid g1
      have G2 := Lib.hid g2
      clear g1 g2
      cases b2 with
      | true =>
        go_wp2_with (go_at_call 97; refine (rdigit_r _ y0 y1 _ G2.out _).mono ?_; rintro e w' ⟨rfl, rfl⟩)
        go_round
        case rel => exact ⟨j + 1, by go_num, by omega, by omega⟩
        case measure => simp [intOf]; omega
      | false =>
        cases b1 with
        | true =>
          go_wp2_with (first
            | (go_at_call 97; refine (rdigit_r _ y0 y1 _ G2.out _).mono ?_; rintro e w' ⟨rfl, rfl⟩)
            | (go_at_call 96; refine (rletter_r _ y0 y1 _ G1.out _).mono ?_; rintro e w' ⟨rfl, rfl⟩))
          refine bodyPost_ret (results_cell_row_tmp rfl _ _ w.heap.size 140 #[.int .i64 0, .string ⟨#[]⟩, .int .i64 0] (0, 0) _ rfl (heap_alloc_new _ _) Tryz.underlying140 rfl rfl) rfl ?_
          exact ⟨⟨0, ⟨#[]⟩, 0, j, rfl, next_other HL0.out (by decide) (fun h => (by omega)) (by omega)⟩, (Below.refl _ _).alloc (Nat.le_refl _) _⟩
        | false =>
          cases b3 with
          | true =>
            go_wp2_with (first
              | (go_at_call 97; refine (rdigit_r _ y0 y1 _ G2.out _).mono ?_; rintro e w' ⟨rfl, rfl⟩)
              | (go_at_call 96; refine (rletter_r _ y0 y1 _ G1.out _).mono ?_; rintro e w' ⟨rfl, rfl⟩))
            refine bodyPost_ret (results_cell_row_tmp rfl _ _ w.heap.size 140 #[.int .i64 0, .string ⟨#[]⟩, .int .i64 0] (0, 0) _ rfl (heap_alloc_new _ _) Tryz.underlying140 rfl rfl) rfl ?_
            exact ⟨⟨0, ⟨#[]⟩, 0, j, rfl, next_other HL0.out (by decide) (fun h => (by omega)) (by omega)⟩, (Below.refl _ _).alloc (Nat.le_refl _) _⟩
          | false =>
            go_wp2_with (first
              | (go_at_call 97; refine (rdigit_r _ y0 y1 _ G2.out _).mono ?_; rintro e w' ⟨rfl, rfl⟩)
              | (go_at_call 96; refine (rletter_r _ y0 y1 _ G1.out _).mono ?_; rintro e w' ⟨rfl, rfl⟩))
            refine bodyPost_ret (results_cell_row_tmp rfl _ _ w.heap.size 140 #[.int .i64 2, .string (s.extract n (j)), .int .i64 n] (0, 0) _ rfl (heap_alloc_new _ _) Tryz.underlying140 rfl rfl) rfl ?_
            exact ⟨⟨2, s.extract n (j), n, -1, rfl, next_other HL0.out (by decide) (fun h => (by rw [ByteArray.size_extract]; omega)) (by omega)⟩, (Below.refl _ _).alloc (Nat.le_refl _) _⟩
    · have hno : decide ((j : Int) < (s.size : Int)) = false := decide_eq_false (by omega)
      go_wp2
      refine bodyPost_ret (results_cell_row_tmp rfl _ _ w.heap.size 140 #[.int .i64 2, .string (s.extract n (j)), .int .i64 n] (0, 0) _ rfl (heap_alloc_new _ _) Tryz.underlying140 rfl rfl) rfl ?_
      exact ⟨⟨2, s.extract n (j), n, -1, rfl, next_other HL0.out (by decide) (fun h => (by rw [ByteArray.size_extract]; omega)) (by omega)⟩, (Below.refl _ _).alloc (Nat.le_refl _) _⟩

set_option maxHeartbeats 8000000 in
set_option maxRecDepth 1000000 in
theorem next_sign (s : ByteArray) (hs : s.size ≤ 70000) (n : Nat) (hn : n < s.size) (hl : letterB (byteAt s n) = false) (hd : digitB (byteAt s n) = false) (w : World) :
    Calls Tryz.prog 85 #[.string s, .int .i64 n] w fun e w' => (∃ (kind : Int) (text : ByteArray) (at_ : Int) (wrong : Int), e = .returned (.tuple #[.agg #[.int .i64 kind, .string text, .int .i64 at_], .int .i64 wrong]) ∧ NextRes s n kind text wrong) ∧ Below w.heap.size w w' := by
  obtain ⟨x0, x1⟩ := byteAt_range s n
  rw [byteAt_of s n hn] at x0 x1 hd
  have hl0 := hl
  rw [byteAt_of s n hn] at hl
  have HL := Lib.hid hl
  have HL0 := Lib.hid hl0
  have HDG := Lib.hid hd
  clear hl hl0 hd
  obtain ⟨q, hq⟩ : ∃ q, inB ⟨#[40, 41, 123, 125, 91, 93, 44, 59, 61, 43, 45, 42, 47, 37, 60, 33, 38, 124]⟩ ((s[n]'hn).toNat : Int) 18 = q := ⟨_, rfl⟩
  have HI := Lib.hid hq
  clear hq
  cases q with
  | false =>
    go_enter Tryz.func85, Tryz.ntmps85
    go_wp2_with (first
      | (go_at_call 96; refine (rletter_r _ x0 x1 _ HL.out _).mono ?_; rintro e w' ⟨rfl, rfl⟩)
      | (go_at_call 97; refine (rdigit_r _ x0 x1 _ HDG.out _).mono ?_; rintro e w' ⟨rfl, rfl⟩)
      | (go_at_call 95; refine (in_r _ (by decide) _ _ HI.out _).mono ?_; rintro e w' ⟨rfl, rfl⟩))
    refine bodyPost_ret (results_cell_row_tmp rfl _ _ w.heap.size 140 #[.int .i64 0, .string ⟨#[]⟩, .int .i64 0] (0, 0) _ rfl (heap_alloc_new _ _) Tryz.underlying140 rfl rfl) rfl ?_
    exact ⟨⟨0, ⟨#[]⟩, 0, n, rfl, next_other HL0.out (by decide) (fun h => (by omega)) (by omega)⟩, (Below.refl _ _).alloc (Nat.le_refl _) _⟩
  | true =>
    obtain ⟨b, h61⟩ : ∃ b, (((s[n]'hn).toNat : Int) == 61) = b := ⟨_, rfl⟩
    cases b with
    | false =>
      go_enter Tryz.func85, Tryz.ntmps85
      go_wp2_with (first
        | (go_at_call 96; refine (rletter_r _ x0 x1 _ HL.out _).mono ?_; rintro e w' ⟨rfl, rfl⟩)
        | (go_at_call 97; refine (rdigit_r _ x0 x1 _ HDG.out _).mono ?_; rintro e w' ⟨rfl, rfl⟩)
        | (go_at_call 95; refine (in_r _ (by decide) _ _ HI.out _).mono ?_; rintro e w' ⟨rfl, rfl⟩))
      refine bodyPost_ret (results_cell_row_tmp rfl _ _ w.heap.size 140 #[.int .i64 3, .string (s.extract n (n + 1)), .int .i64 n] (0, 0) _ rfl (heap_alloc_new _ _) Tryz.underlying140 rfl rfl) rfl ?_
      exact ⟨⟨3, s.extract n (n + 1), n, -1, rfl, next_other HL0.out (by decide) (fun h => (by rw [ByteArray.size_extract]; omega)) (by omega)⟩, (Below.refl _ _).alloc (Nat.le_refl _) _⟩
    | true =>
      by_cases hn1 : n + 1 < s.size
      · obtain ⟨b', h61'⟩ : ∃ b, (((s[n + 1]'hn1).toNat : Int) == 61) = b := ⟨_, rfl⟩
        cases b' with
        | false =>
          go_enter Tryz.func85, Tryz.ntmps85
          go_wp2_with (first
            | (go_at_call 96; refine (rletter_r _ x0 x1 _ HL.out _).mono ?_; rintro e w' ⟨rfl, rfl⟩)
            | (go_at_call 97; refine (rdigit_r _ x0 x1 _ HDG.out _).mono ?_; rintro e w' ⟨rfl, rfl⟩)
            | (go_at_call 95; refine (in_r _ (by decide) _ _ HI.out _).mono ?_; rintro e w' ⟨rfl, rfl⟩))
          refine bodyPost_ret (results_cell_row_tmp rfl _ _ w.heap.size 140 #[.int .i64 3, .string (s.extract n (n + 1)), .int .i64 n] (0, 0) _ rfl (heap_alloc_new _ _) Tryz.underlying140 rfl rfl) rfl ?_
          exact ⟨⟨3, s.extract n (n + 1), n, -1, rfl, next_other HL0.out (by decide) (fun h => (by rw [ByteArray.size_extract]; omega)) (by omega)⟩, (Below.refl _ _).alloc (Nat.le_refl _) _⟩
        | true =>
          go_enter Tryz.func85, Tryz.ntmps85
          go_wp2_with (first
            | (go_at_call 96; refine (rletter_r _ x0 x1 _ HL.out _).mono ?_; rintro e w' ⟨rfl, rfl⟩)
            | (go_at_call 97; refine (rdigit_r _ x0 x1 _ HDG.out _).mono ?_; rintro e w' ⟨rfl, rfl⟩)
            | (go_at_call 95; refine (in_r _ (by decide) _ _ HI.out _).mono ?_; rintro e w' ⟨rfl, rfl⟩))
          refine bodyPost_ret (results_cell_row_tmp rfl _ _ w.heap.size 140 #[.int .i64 3, .string (s.extract n (n + 2)), .int .i64 n] (0, 0) _ rfl (heap_alloc_new _ _) Tryz.underlying140 rfl rfl) rfl ?_
          exact ⟨⟨3, s.extract n (n + 2), n, -1, rfl, next_other HL0.out (by decide) (fun h => (by rw [ByteArray.size_extract]; omega)) (by omega)⟩, (Below.refl _ _).alloc (Nat.le_refl _) _⟩
      · have hno : decide (((n : Int) + 1) < (s.size : Int)) = false := decide_eq_false (by omega)
        go_enter Tryz.func85, Tryz.ntmps85
        go_wp2_with (first
          | (go_at_call 96; refine (rletter_r _ x0 x1 _ HL.out _).mono ?_; rintro e w' ⟨rfl, rfl⟩)
          | (go_at_call 97; refine (rdigit_r _ x0 x1 _ HDG.out _).mono ?_; rintro e w' ⟨rfl, rfl⟩)
          | (go_at_call 95; refine (in_r _ (by decide) _ _ HI.out _).mono ?_; rintro e w' ⟨rfl, rfl⟩))
        refine bodyPost_ret (results_cell_row_tmp rfl _ _ w.heap.size 140 #[.int .i64 3, .string (s.extract n (n + 1)), .int .i64 n] (0, 0) _ rfl (heap_alloc_new _ _) Tryz.underlying140 rfl rfl) rfl ?_
        exact ⟨⟨3, s.extract n (n + 1), n, -1, rfl, next_other HL0.out (by decide) (fun h => (by rw [ByteArray.size_extract]; omega)) (by omega)⟩, (Below.refl _ _).alloc (Nat.le_refl _) _⟩

theorem next_r (s : ByteArray) (hs : s.size ≤ 70000) (n : Nat) (hn : n < s.size) (w : World) :
    Calls Tryz.prog 85 #[.string s, .int .i64 n] w fun e w' => (∃ (kind : Int) (text : ByteArray) (at_ : Int) (wrong : Int), e = .returned (.tuple #[.agg #[.int .i64 kind, .string text, .int .i64 at_], .int .i64 wrong]) ∧ NextRes s n kind text wrong) ∧ Below w.heap.size w w' := by
  cases hl : letterB (byteAt s n) with
  | true => exact next_letter s hs n hn hl w
  | false =>
    cases hd : digitB (byteAt s n) with
    | true => exact next_digit s hs n hn hl hd w
    | false => exact next_sign s hs n hn hl hd w
end Go.Proofs.YthjjcmmonjajhaaGreatDoor
namespace Go.Proofs.YthjjcmmonjajhaaGreatDoor
open Go.RowKit Go.Sort
set_option linter.unusedVariables false

def shapeB (s : ByteArray) : Bool := decide (0 < s.size ∧ s.size ≤ 32) && (letterB (byteAt s 0) && !anyBad s s.size)
theorem infoTok : (Tryz.prog.info? 140).map (fun i => (i.zero, i.size, i.bytes)) = some (some (.agg #[.int .i64 0, .string ⟨#[]⟩, .int .i64 0]), 3, 32) := by kernel_rfl
def LexInv (s : ByteArray) (k m : Nat) (xs : List Value) : Prop :=
  (m = 0 ∧ xs = [] ∧ SkipTo s 0 k) ∨
  (0 < m ∧ ∃ (kind : Int) (text : ByteArray) (at_ : Value) (rest : List Value), xs = .int .i64 kind :: .string text :: at_ :: rest ∧ ((shapeB s = true ∧ m = 1 ∧ k = s.size ∧ kind = 1 ∧ text = s) ∨ (shapeB s = false ∧ (kind ≠ 1 ∨ text.size < s.size))))
theorem shape_letter {s : ByteArray} (h : letterB (byteAt s 0) = false) : shapeB s = false := by unfold shapeB; rw [h]; simp
theorem shape_long {s : ByteArray} (h : 32 < s.size) : shapeB s = false := by
  unfold shapeB; rw [decide_eq_false (by omega)]; rfl
theorem shape_bad {s : ByteArray} {m : Nat} (hm : m < s.size) (h : innerB (byteAt s m) = false) : shapeB s = false := by
  unfold shapeB; rw [anyBad_mem s s.size m hm (by rw [h]; rfl)]; simp
theorem shape_good {s : ByteArray} (h1 : 0 < s.size) (h2 : s.size ≤ 32) (h3 : letterB (byteAt s 0) = true) (h4 : ∀ i, 0 < i → i < s.size → innerB (byteAt s i) = true) : shapeB s = true := by
  have hb : anyBad s s.size = false := by
    unfold anyBad
    rw [← Bool.not_eq_true, List.any_eq_true]
    rintro ⟨i, hi, h⟩
    have hi' := List.mem_range.1 hi
    rcases Nat.eq_zero_or_pos i with rfl | h0
    · unfold innerB at h; rw [h3] at h; simp at h
    · rw [h4 i h0 hi'] at h; cases h
  unfold shapeB
  rw [decide_eq_true ⟨h1, h2⟩, h3, hb]; rfl
theorem lex_step {s : ByteArray} {k m r : Nat} {xs : List Value} (h : LexInv s k m xs) (hk : k < s.size) {kind : Int} {text : ByteArray} {wrong : Int} (hn : NextRes s k kind text wrong) (hw : wrong < 0) (h1 : k + text.size ≤ r) (h2 : r ≤ s.size) (at_ : Value) :
    LexInv s r (m + 1) (xs ++ [.int .i64 kind, .string text, at_]) := by
  right
  refine ⟨by omega, ?_⟩
  rcases h with ⟨rfl, rfl, hs⟩ | ⟨h0, kd, tx, at2, rest, rfl, ⟨_, _, he, _⟩ | hg⟩
  · refine ⟨kind, text, at_, [], rfl, ?_⟩
    cases hl : letterB (byteAt s 0) with
    | true =>
      obtain rfl : k = 0 := hs (by omega) hl
      obtain ⟨m', h3, h4, h5, h6, ⟨_, h7⟩ | ⟨h7, _, h8, h9⟩⟩ := hn.1 hl
      · omega
      · subst h8 h9
        rw [ByteArray.size_extract] at h1
        by_cases he : m' = s.size
        · left
          subst he
          refine ⟨shape_good (by omega) (by omega) hl h5, rfl, by omega, rfl, ?_⟩
          exact ByteArray.extract_zero_size
        · right
          refine ⟨shape_bad (by omega) (h6 (by omega)), .inr ?_⟩
          rw [ByteArray.size_extract]; omega
    | false =>
      right
      refine ⟨shape_letter hl, ?_⟩
      rcases Nat.eq_zero_or_pos k with rfl | hpos
      · rcases hn.2.1 hl with h | h
        · omega
        · exact .inl h
      · have := hn.2.2.1 hw
        exact .inr (by omega)
  · omega
  · exact ⟨kd, tx, at2, rest ++ [.int .i64 kind, .string text, at_], by simp, .inr hg⟩
theorem lex_err {s : ByteArray} {k m : Nat} {xs : List Value} (h : LexInv s k m xs) (hk : k < s.size) {kind : Int} {text : ByteArray} {wrong : Int} (hn : NextRes s k kind text wrong) (hw : 0 ≤ wrong) : shapeB s = false := by
  rcases h with ⟨rfl, rfl, hs⟩ | ⟨h0, kd, tx, at2, rest, rfl, ⟨_, _, he, _⟩ | hg⟩
  · cases hl : letterB (byteAt s 0) with
    | true =>
      obtain rfl : k = 0 := hs (by omega) hl
      obtain ⟨m', h3, h4, h5, h6, ⟨h7, _⟩ | ⟨h7, h8, _⟩⟩ := hn.1 hl
      · exact shape_long (by omega)
      · omega
    | false => exact shape_letter hl
  · omega
  · exact hg.1
theorem lex_end {s : ByteArray} {k m : Nat} {xs : List Value} (h : LexInv s k m xs) (hk : k = s.size) (e : Value) :
    ∃ (kind : Int) (text : ByteArray) (at_ : Value) (rest : List Value), xs ++ [.int .i64 4, .string ⟨#[]⟩, e] = .int .i64 kind :: .string text :: at_ :: rest ∧ ((shapeB s = true ∧ m + 1 = 2 ∧ kind = 1 ∧ text = s) ∨ (shapeB s = false ∧ (m + 1 ≠ 2 ∨ kind ≠ 1 ∨ text.size < s.size))) := by
  rcases h with ⟨rfl, rfl, hs⟩ | ⟨h0, kd, tx, at2, rest, rfl, hg⟩
  · refine ⟨4, ⟨#[]⟩, e, [], rfl, .inr ⟨?_, .inl (by omega)⟩⟩
    cases hl : letterB (byteAt s 0) with
    | true =>
      rcases Nat.eq_zero_or_pos s.size with h0 | h0
      · unfold shapeB; rw [decide_eq_false (by omega)]; rfl
      · have := hs h0 hl; omega
    | false => exact shape_letter hl
  · refine ⟨kd, tx, at2, rest ++ [.int .i64 4, .string ⟨#[]⟩, e], by simp, ?_⟩
    rcases hg with ⟨a, b, _, c, d⟩ | ⟨a, b⟩
    · exact .inl ⟨a, by omega, c, d⟩
    · exact .inr ⟨a, .inr b⟩
/-- What Lex tells, as far as Name asks. -/
def LexRes (s : ByteArray) (w : World) (v : Value) (e : Int) : Prop :=
  (e ≠ 0 ∧ v = .slice none 0 0 ∧ shapeB s = false) ∨
  (e = 0 ∧ ∃ (g m c : Nat) (kind : Int) (text : ByteArray), v = .slice (some ⟨g, 0, none⟩) m c ∧ 0 < m ∧ m ≤ c ∧ c ≤ maxLen ∧ w.cell? ⟨g, 0, none⟩ = some (.int .i64 kind) ∧ w.cell? ⟨g, 1, none⟩ = some (.string text) ∧ ((shapeB s = true ∧ m = 2 ∧ kind = 1 ∧ text = s) ∨ (shapeB s = false ∧ (m ≠ 2 ∨ kind ≠ 1 ∨ text.size < s.size))))
theorem lex_done {s : ByteArray} {w : World} {base : Nat} {k m : Nat} {xs : List Value} {v e : Value} (h : LexInv s k m xs) (hk : k = s.size) (ho : w.ownsRow base 140 3 v (m + 1) (xs ++ [.int .i64 4, .string ⟨#[]⟩, e])) : LexRes s w v 0 := by
  right
  refine ⟨rfl, ?_⟩
  obtain ⟨kind, text, at_, rest, hx, hg⟩ := lex_end h hk e
  obtain ⟨_, ⟨_, h0⟩ | ⟨q, cap, cur, rfl, _, hk', hn, hm, hsz, ht⟩⟩ := ho
  · omega
  · rw [hx] at ht
    have hc : ∀ j, j < (m + 1) * 3 → w.cell? ⟨q, j, none⟩ = (Value.int .i64 kind :: .string text :: at_ :: rest)[j]? := fun j hj => by
      rw [cell_of_heap hk', ← ht, List.getElem?_take, if_pos hj]; simp
    exact ⟨q, m + 1, cap, kind, text, rfl, by omega, hn, hm, (hc 0 (by omega)).trans rfl, (hc 1 (by omega)).trans rfl, hg⟩
end Go.Proofs.YthjjcmmonjajhaaGreatDoor
namespace Go.Proofs.YthjjcmmonjajhaaGreatDoor
open Go.RowKit Go.Sort
set_option linter.unusedVariables false

theorem tok_new (w : World) (a b c : Value) (t : TypeId) : ∀ j u, ([a, b, c] : List Value)[j]? = some u → (w.alloc (.cells #[a, b, c] t)).cell? ((⟨w.heap.size, 0, none⟩ : Addr).add j) = some u := by
  intro j u h
  rw [addr_add, Nat.zero_add, cell_of_heap (World.alloc_heap_new w _)]
  simpa using h
theorem own_slice {w : World} {base : Nat} {e : TypeId} {size n : Nat} {v : Value} {xs : List Value} (h : w.ownsRow base e size v (n + 1) xs) : ∃ g cap, v = .slice (some ⟨g, 0, none⟩) (n + 1) cap := ownsRow_succ' h

theorem own_old {w : World} {base : Nat} {e : TypeId} {size n : Nat} {v : Value} {xs : List Value} (h : w.ownsRow base e size v n xs) : some (⟨w.heap.size, 1, none⟩ : Addr).block ≠ v.ownBlock := fun e => by
  have := (h.lt _ e.symm).2
  exact absurd this (Nat.lt_irrefl _)
theorem below_own {B : Nat} {w0 w w' : World} {e : TypeId} {size n : Nat} {v : Value} {xs : List Value} (hb : Below B w0 w) (hB : B ≤ w.heap.size) (ho : w.ownsRow B e size v n xs) (hg : w.grownBy w' v.ownBlock) : Below B w0 w' :=
  hb.grown hg hB (fun r e => (ho.lt r e).1)

set_option maxHeartbeats 8000000 in
set_option maxRecDepth 1000000 in
theorem lex_long (s : ByteArray) (h65 : 65536 < s.size) (w : World) :
    Calls Tryz.prog 68 #[.string s] w fun e w' => (∃ (v : Value) (i e' : Int), e = .returned (.tuple #[v, .int .i64 i, .int .i64 e']) ∧ LexRes s w' v e') ∧ Below w.heap.size w w' := by
  have h : (65536 : Int) < (s.size : Int) := by omega
  go_enter Tryz.func68, Tryz.ntmps68
  go_wp2
  refine bodyPost_ret (results_tmp3 rfl _ _ _) rfl ?_
  exact ⟨⟨.slice none 0 0, 0, 1, rfl, .inl ⟨by decide, rfl, shape_long (by omega)⟩⟩, Below.refl _ _⟩

set_option maxHeartbeats 8000000 in
set_option maxRecDepth 1000000 in
theorem lex_short (s : ByteArray) (h65 : s.size ≤ 65536) (w : World) :
    Calls Tryz.prog 68 #[.string s] w fun e w' => (∃ (v : Value) (i e' : Int), e = .returned (.tuple #[v, .int .i64 i, .int .i64 e']) ∧ LexRes s w' v e') ∧ Below w.heap.size w w' := by
  obtain ⟨iT, hi, hz0, hz1, hz2⟩ := info_parts infoTok
  have h : decide ((65536 : Int) < (s.size : Int)) = false := decide_eq_false (by omega)
  go_enter Tryz.func68, Tryz.ntmps68
  go_wp2_with (go_at_call 84; refine (skip_r s (by omega) 0 (by omega) _).mono ?_; rintro e w' ⟨⟨r0, rfl, hr0, hr1, hr2⟩, rfl⟩; have HR2 := Lib.hid hr2; clear hr2)
  clear h
  go_loopw [5, 6] (fun v i wr => ∃ k m : Nat, ∃ xs : List Value, i = .int .i64 k ∧ k ≤ s.size ∧ m ≤ k ∧ Hid (Below w.heap.size w wr) ∧ Hid (wr.ownsRow w.heap.size 140 3 v m xs) ∧ Hid (LexInv s k m xs)) (fun _ i _ => s.size - (intOf i).toNat)
  case atStart => exact ⟨r0, 0, [], rfl, hr1, by omega, (Below.refl _ _).alloc (Nat.le_refl _) _, own_empty _ _ _ _ (Nat.le_refl _), .inl ⟨rfl, rfl, HR2.out⟩⟩
  case round =>
    clear hr0 hr1
    obtain ⟨k, m, xs, rfl, hk, hmk, HB, HO, HI⟩ := hrel
    by_cases hlt : k < s.size
    · refine ?_
      go_wp2_with fail
      refine (next_r s (by omega) k hlt _).mono ?_
      rintro e w2 ⟨⟨kind, text, at_, wrong, rfl, hn⟩, hb⟩
      have HB2 : Hid (Below w.heap.size w w2) := hb_step HB hb
      have HO2 := Lib.hid (own_hold HO.out hb)
      have HN := Lib.hid hn
      have HSZ := Lib.hid hb.size
      clear hb hn
      by_cases hw : (0 : Int) ≤ wrong
      · go_wp2
        refine bodyPost_ret (results_tmp3 rfl _ _ _) rfl ?_
        exact ⟨⟨.slice none 0 0, wrong, 2, rfl, .inl ⟨by decide, rfl, lex_err HI.out hlt HN.out hw⟩⟩, (hb_alloc HB2 _).out⟩
      · have hw' : decide ((0 : Int) ≤ wrong) = false := decide_eq_false hw
        have HW := Lib.hid hw
        clear hw
        obtain ⟨ht0, ht1⟩ := HN.out.2.2.1 (by have := HW.out; omega)
        have hm65 : m ≤ 65536 := by omega
        have HM65 := Lib.hid hm65
        have hsz : (wr.heap.size) ≤ w2.heap.size := HSZ.out
        have HOA := Lib.hid ((HO2.out.alloc (.cells #[.int .i64 kind, .string text, .int .i64 at_] 140)).alloc (.cells #[.int .i64 kind, .string text, .int .i64 at_] 140))
        have HBA : Hid (Below w.heap.size w ((w2.alloc (.cells #[.int .i64 kind, .string text, .int .i64 at_] 140)).alloc (.cells #[.int .i64 kind, .string text, .int .i64 at_] 140))) := hb_alloc (hb_alloc HB2 _) _
        have HQ : Hid (((w2.alloc (.cells #[.int .i64 kind, .string text, .int .i64 at_] 140)).alloc (.cells #[.int .i64 kind, .string text, .int .i64 at_] 140)).cell? ⟨w2.heap.size, 1, none⟩ = some (.string text)) := by show _ = _; simp
        have HC := Lib.hid (tok_new (w2.alloc (.cells #[.int .i64 kind, .string text, .int .i64 at_] 140)) (.int .i64 kind) (.string text) (.int .i64 at_) 140)
        clear hsz hm65
        go_wp2_with (first
          | (at_builtin; refine wpList_append_own _ rfl _ _ 136 rfl w.heap.size 140 iT (.agg #[.int .i64 0, .string ⟨#[]⟩, .int .i64 0]) 3 32 Tryz.underlying136 hi hz0 hz1 hz2 rfl (by decide) _ _ _ rfl HOA.out ⟨w2.heap.size + 1, 0, none⟩ 1 1 [.int .i64 kind, .string text, .int .i64 at_] rfl rfl (by have := HC.out; rw [World.size_alloc] at this; exact this) (by simp [Value.oneCell']) (by have := HM65.out; unfold maxLen; omega) (by have := HM65.out; omega) HBA.out.size ?_; intro v' w3 hown' hgrow _; obtain ⟨g', cap', rfl⟩ := ownsRow_succ' hown'; have HO3 := Lib.hid hown'; have HB3 : Hid (Below w.heap.size w w3) := below_own HBA.out HBA.out.size HOA.out hgrow; have q1 : w3.cell? ⟨w2.heap.size, 1, none⟩ = some (.string text) := hgrow.cell HQ.out (own_old HO2.out); clear hown' hgrow)
          | (go_at_call 84; refine (skip_r s (by omega) (k + text.size) ht1 _).mono ?_; rintro e w' ⟨⟨r, rfl, hr0, hr1, hr2⟩, rfl⟩; clear hr2))
        go_roundw
        case rel => exact ⟨r, m + 1, _, rfl, hr1, by omega, HB3, HO3, lex_step HI.out hlt HN.out (by have := HW.out; omega) hr0 hr1 _⟩
        case measure => simp [intOf]; omega
    · obtain rfl : k = s.size := by omega
      have HM65 : Hid (m ≤ 65536) := by show m ≤ _; omega
      have HOA := Lib.hid (HO.out.alloc (.cells #[.int .i64 4, .string ⟨#[]⟩, .int .i64 s.size] 140))
      have HBA : Hid (Below w.heap.size w (wr.alloc (.cells #[.int .i64 4, .string ⟨#[]⟩, .int .i64 s.size] 140))) := hb_alloc HB _
      have HC := Lib.hid (tok_new wr (.int .i64 4) (.string ⟨#[]⟩) (.int .i64 s.size) 140)
      go_wp2_with (at_builtin; refine wpList_append_own _ rfl _ _ 136 rfl w.heap.size 140 iT (.agg #[.int .i64 0, .string ⟨#[]⟩, .int .i64 0]) 3 32 Tryz.underlying136 hi hz0 hz1 hz2 rfl (by decide) _ _ _ rfl HOA.out ⟨wr.heap.size, 0, none⟩ 1 1 [.int .i64 4, .string ⟨#[]⟩, .int .i64 s.size] rfl rfl HC.out (by simp [Value.oneCell']) (by have := HM65.out; unfold maxLen; omega) (by have := HM65.out; omega) HBA.out.size ?_; intro v' w3 hown' hgrow _; obtain ⟨g', cap', rfl⟩ := ownsRow_succ' hown'; have HO3 := Lib.hid hown'; have HB3 : Hid (Below w.heap.size w w3) := below_own HBA.out HBA.out.size HOA.out hgrow; clear hown' hgrow)
      refine bodyPost_ret (results_tmp3 rfl _ _ _) rfl ?_
      exact ⟨⟨_, 0, 0, rfl, lex_done HI.out rfl HO3.out⟩, HB3.out⟩
theorem lex_r (s : ByteArray) (w : World) :
    Calls Tryz.prog 68 #[.string s] w fun e w' => (∃ (v : Value) (i e' : Int), e = .returned (.tuple #[v, .int .i64 i, .int .i64 e']) ∧ LexRes s w' v e') ∧ Below w.heap.size w w' := by
  by_cases h : s.size ≤ 65536
  · exact lex_short s h w
  · exact lex_long s (by omega) w
end Go.Proofs.YthjjcmmonjajhaaGreatDoor
namespace Go.Proofs.YthjjcmmonjajhaaGreatDoor
open Go.RowKit Go.Sort
set_option linter.unusedVariables false

theorem name_shape (s : ByteArray) : nameB s = (!kwB s && shapeB s) := by
  unfold nameB shapeB
  cases decide (0 < s.size ∧ s.size ≤ 32) <;> cases letterB (byteAt s 0) <;> cases kwB s <;> cases anyBad s s.size <;> rfl
def kwR (s : ByteArray) (k : Nat) : Bool := (List.range k).any fun i => (kwL.getD i ByteArray.empty).toList == s.toList
theorem kwR_next (s : ByteArray) (k : Nat) : kwR s (k + 1) = (kwR s k || ((kwL.getD k ByteArray.empty).toList == s.toList)) := by
  unfold kwR; rw [List.range_succ, List.any_append]; simp
theorem kwR_mem (s : ByteArray) (n k : Nat) (hk : k < n) (h : ((kwL.getD k ByteArray.empty).toList == s.toList) = true) : kwR s n = true := by
  unfold kwR; exact List.any_eq_true.2 ⟨k, List.mem_range.2 hk, h⟩
theorem kwR_all (s : ByteArray) : kwR s 10 = kwB s := by
  rw [Bool.eq_iff_iff]
  unfold kwR kwB
  rw [List.any_eq_true, List.any_eq_true]
  constructor
  · rintro ⟨i, hi, h⟩
    have hi' : i < kwL.length := List.mem_range.1 hi
    refine ⟨kwL.getD i ByteArray.empty, ?_, ?_⟩
    · rw [List.getD_eq_getElem?_getD, List.getElem?_eq_getElem hi']; exact List.getElem_mem hi'
    · rw [beq_iff_eq] at h ⊢; exact h.symm
  · rintro ⟨x, hx, h⟩
    obtain ⟨i, hi, rfl⟩ := List.mem_iff_getElem.1 hx
    refine ⟨i, List.mem_range.2 hi, ?_⟩
    rw [List.getD_eq_getElem?_getD, List.getElem?_eq_getElem hi]
    rw [beq_iff_eq] at h ⊢; exact h.symm
theorem size_list (s : ByteArray) : s.toList.length = s.size := by rw [ByteArray.toList_eq]; cases s; rfl

set_option maxHeartbeats 8000000 in
set_option maxRecDepth 1000000 in
theorem rname_r (s : ByteArray) (q : Bool) (hq : nameB s = q) (w : World) :
    Calls Tryz.prog 39 #[.string s] w fun e w' => e = .returned (.bool q) ∧ Below w.heap.size w w' := by
  rw [name_shape, ← kwR_all] at hq
  have HQ := Lib.hid hq
  clear hq
  go_enter Tryz.func39, Tryz.ntmps39
  go_wp2_with fail
  have hst := kw_in w
  have hbl : Below w.heap.size w (w.alloc (.cells kwCells 9)) := (Below.refl _ _).alloc (Nat.le_refl _) _
  unfold kwCells at hst hbl
  generalize w.alloc (.cells #[.string ⟨#[102, 117, 110, 99]⟩, .string ⟨#[97, 114, 114, 97, 121]⟩, .string ⟨#[105, 110, 112, 117, 116]⟩, .string ⟨#[112, 114, 105, 110, 116]⟩, .string ⟨#[107, 101, 101, 112]⟩, .string ⟨#[105, 102]⟩, .string ⟨#[101, 108, 115, 101]⟩, .string ⟨#[119, 104, 105, 108, 101]⟩, .string ⟨#[114, 101, 116, 117, 114, 110]⟩, .string ⟨#[99, 108, 111, 99, 107]⟩] 9) = W0 at hst hbl ⊢
  have HST : Hid (StrIn W0 w.heap.size 0 kwL) := hst
  have HBL := Lib.hid hbl
  clear hst hbl
  go_loop [4] (fun i => ∃ k : Nat, i = .int .i64 k ∧ k ≤ 10 ∧ Hid (kwR s k = false)) (fun i => 10 - (intOf i).toNat)
  case atStart => exact ⟨0, rfl, by omega, rfl⟩
  case round =>
    obtain ⟨k, rfl, hk, HA⟩ := hrel
    by_cases hlt : k < 10
    · have e := HST.out k hlt
      rw [Nat.zero_add] at e
      have hnx := kwR_next s k
      have hmm := kwR_mem s 10 k hlt
      generalize kwL.getD k ByteArray.empty = x at e hnx hmm
      obtain ⟨t, ht⟩ : ∃ t, (x.toList == s.toList) = t := ⟨_, rfl⟩
      rw [ht] at hnx hmm
      have HN := Lib.hid hnx
      have HM := Lib.hid hmm
      clear hnx hmm
      cases t with
      | true =>
        go_wp2
        go_ret
        obtain rfl : q = false := by rw [← HQ.out, HM.out (by first | rfl | trivial)]; rfl
        exact ⟨rfl, HBL.out⟩
      | false =>
        go_wp2
        go_round
        case rel => exact ⟨k + 1, by go_num, by omega, by show _ = _; rw [HN.out, HA.out]; rfl⟩
        case measure => simp [intOf]; omega
    · obtain rfl : k = 10 := by omega
      have HS : Hid (shapeB s = q) := by show _ = _; rw [← HQ.out, HA.out]; rfl
      go_wp2_with fail
      refine (lex_r s _).mono ?_
      rintro e w2 ⟨⟨v, i, e', rfl, hl⟩, hb⟩
      have HB : Hid (Below w.heap.size w w2) := HBL.out.trans (hb.mono HBL.out.size)
      clear hb
      rcases hl with ⟨he, rfl, hf⟩ | ⟨rfl, g, m, c, kind, text, rfl, hm0, hmc, hcm, c0, c1, ⟨hf, rfl, rfl, rfl⟩ | ⟨hf, hx⟩⟩
      · have he' : (e' == 0) = false := by simpa using he
        obtain rfl : q = false := HS.out.symm.trans hf
        clear he hf
        go_wp2
        go_ret
        exact ⟨rfl, HB.out⟩
      · obtain rfl : q = true := HS.out.symm.trans hf
        clear hf
        have hcm' : c ≤ 9223372036854775807 := hcm
        clear hcm
        go_wp2
        go_ret
        exact ⟨rfl, HB.out⟩
      · obtain rfl : q = false := HS.out.symm.trans hf
        have hcm' : c ≤ 9223372036854775807 := hcm
        have HX := Lib.hid hx
        clear hcm hf hx
        obtain ⟨b2, h2⟩ : ∃ b, ((m : Int) == 2) = b := ⟨_, rfl⟩
        cases b2 with
        | false =>
          go_wp2
          go_ret
          exact ⟨rfl, HB.out⟩
        | true =>
        obtain rfl : m = 2 := by have : (m : Int) = 2 := by simpa using h2
                                 omega
        clear h2
        obtain ⟨b1, h1⟩ : ∃ b, (kind == 1) = b := ⟨_, rfl⟩
        cases b1 with
        | false =>
          go_wp2
          go_ret
          exact ⟨rfl, HB.out⟩
        | true =>
          have h3 : (text.toList == s.toList) = false := by
            rcases HX.out with h | h | h
            · exact absurd rfl h
            · exact absurd (by simpa using h1) h
            · rw [← Bool.not_eq_true, beq_iff_eq]
              intro e
              have := congrArg List.length e
              rw [size_list, size_list] at this
              omega
          go_wp2
          go_ret
          exact ⟨rfl, HB.out⟩
end Go.Proofs.YthjjcmmonjajhaaGreatDoor
