/- The document's next. -/
import Derived.Test.YtplckmpamekloaaDoorTellsK
import Derived.Test.YtplckmpamekloaaDoorTreeMem
namespace Go.Proofs.YtplckmpamekloaaDoor
open Go.RowKit Go.Sort
set_option linter.unusedVariables false

theorem results_cell_row_tmp {P : Program} {fn : Func} {p u : Tmp} {ty : TypeId} (h : fn.results = #[.cell p ty, .tmp u]) (tmps : Array Value) (w : World) (g : Nat) (t : TypeId) (cs : Array Value) (fr : Nat × Nat) (d : TypeDesc)
    (hp : tmps.getD p undef = .pointer (some ⟨g, 0, none⟩)) (hg : w.heap[g]? = some (.cells cs t fr))
    (hu : P.underlying ty = some d) (hd : (match d with | .struct _ | .array _ _ => true | _ => false) = true) (hi : (P.info? ty).map (·.size) = some cs.size) :
    (results fn tmps).run P w = .ok (.tuple #[.agg cs, tmps.getD u undef]) w := by
  have hp' : tmps[p]?.getD undef = .pointer (some ⟨g, 0, none⟩) := by simpa using hp
  simp [results, h, hp', asAddr, Result.andThen, run_loadVar_row w g t ty cs fr d hg hu hd hi]

/-- What is told of a token. -/
def NextRes (s : ByteArray) (n : Nat) (kind : Int) (text : ByteArray) (wrong : Int) : Prop :=
  (letterB (byteAt s n) = true → ∃ m, n < m ∧ m ≤ s.size ∧ (∀ i, n < i → i < m → innerB (byteAt s i) = true) ∧ (m < s.size → innerB (byteAt s m) = false) ∧ ((32 < m - n ∧ wrong = n) ∨ (m - n ≤ 32 ∧ wrong = -1 ∧ kind = 1 ∧ text = s.extract n m))) ∧
  (letterB (byteAt s n) = false → (0 ≤ wrong ∨ kind ≠ 1)) ∧ (wrong < 0 → 0 < text.size ∧ n + text.size ≤ s.size) ∧ -1 ≤ wrong
theorem inner_eq (c : Int) : innerB c = (letterB c || (digitB c || (c == 95))) := by
  unfold innerB digitB
  have : (c == 95) = decide (c = 95) := by by_cases h : c = 95 <;> simp [h]
  rw [this, Bool.or_assoc]

theorem next_long {s : ByteArray} {n j : Nat} (hl : letterB (byteAt s n) = true) (h1 : n < j) (h2 : j ≤ s.size) (h3 : ∀ i, n < i → i < j → innerB (byteAt s i) = true) (h4 : j < s.size → innerB (byteAt s j) = false) (h : 32 < j - n) (k : Int) (t : ByteArray) : NextRes s n k t n :=
  ⟨fun _ => ⟨j, h1, h2, h3, h4, .inl ⟨h, rfl⟩⟩, fun e => (by rw [hl] at e; cases e), fun e => (by omega), by omega⟩
theorem next_word {s : ByteArray} {n j : Nat} (hl : letterB (byteAt s n) = true) (h1 : n < j) (h2 : j ≤ s.size) (h3 : ∀ i, n < i → i < j → innerB (byteAt s i) = true) (h4 : j < s.size → innerB (byteAt s j) = false) (h : ¬ 32 < j - n) : NextRes s n 1 (s.extract n j) (-1) :=
  ⟨fun _ => ⟨j, h1, h2, h3, h4, .inr ⟨by omega, rfl, rfl, rfl⟩⟩, fun e => (by rw [hl] at e; cases e), fun _ => (by rw [ByteArray.size_extract]; omega), by omega⟩
theorem next_other {s : ByteArray} {n : Nat} (hl : letterB (byteAt s n) = false) {k : Int} (hk : k ≠ 1) {t : ByteArray} {r : Int} (h : r < 0 → 0 < t.size ∧ n + t.size ≤ s.size) (hr : -1 ≤ r) : NextRes s n k t r :=
  ⟨fun e => (by rw [hl] at e; cases e), fun _ => .inr hk, h, hr⟩

set_option maxHeartbeats 8000000 in
set_option maxRecDepth 1000000 in
theorem next_letter (s : ByteArray) (hs : s.size ≤ 70000) (n : Nat) (hn : n < s.size) (hl : letterB (byteAt s n) = true) (w : World) :
    Calls Tryd.prog 57 #[.string s, .int .i64 n] w fun e w' => (∃ (kind : Int) (text : ByteArray) (at_ : Int) (wrong : Int), e = .returned (.tuple #[.agg #[.int .i64 kind, .string text, .int .i64 at_], .int .i64 wrong]) ∧ NextRes s n kind text wrong) ∧ Below w.heap.size w w' := by
  obtain ⟨x0, x1⟩ := byteAt_range s n
  rw [byteAt_of s n hn] at x0 x1
  have hl0 := hl
  rw [byteAt_of s n hn] at hl
  obtain ⟨dg, hdg⟩ : ∃ b, digitB ((s[n]'hn).toNat : Int) = b := ⟨_, rfl⟩
  have HL := Lib.hid hl
  have HL0 := Lib.hid hl0
  have HDG := Lib.hid hdg
  clear hl hl0 hdg
  go_enter Tryd.func57, Tryd.ntmps57
  go_wp2_with (first
    | (go_at_call 63; refine (rletter_r _ x0 x1 _ HL.out _).mono ?_; rintro e w' ⟨rfl, rfl⟩)
    | (go_at_call 64; refine (rdigit_r _ x0 x1 _ HDG.out _).mono ?_; rintro e w' ⟨rfl, rfl⟩))
  go_loop [8] (fun i => ∃ j : Nat, i = .int .i64 j ∧ n + 1 ≤ j ∧ j ≤ s.size ∧ Hid (∀ i, n < i → i < j → innerB (byteAt s i) = true)) (fun i => s.size - (intOf i).toNat)
  case atStart => exact ⟨n + 1, by go_num, by omega, by omega, fun i h1 h2 => by omega⟩
  case round =>
    obtain ⟨j, rfl, hj0, hj, HA⟩ := hrel
    by_cases hjt : j < s.size
    · obtain ⟨y0, y1⟩ := byteAt_range s j
      have hbj := byteAt_of s j hjt
      rw [hbj] at y0 y1
      obtain ⟨b1, g1⟩ : ∃ b, letterB ((s[j]'hjt).toNat : Int) = b := ⟨_, rfl⟩
      obtain ⟨b2, g2⟩ : ∃ b, digitB ((s[j]'hjt).toNat : Int) = b := ⟨_, rfl⟩
      obtain ⟨b3, g3⟩ : ∃ b, (((s[j]'hjt).toNat : Int) == 95) = b := ⟨_, rfl⟩
      have HIN : Hid (innerB (byteAt s j) = (b1 || (b2 || b3))) := by show _ = _; rw [hbj, inner_eq, g1, g2, g3]
      have G1 := Lib.hid g1
      have G2 := Lib.hid g2
      have G3 := Lib.hid g3
      clear g1 g2 g3 hbj
      by_cases hin : (b1 || (b2 || b3)) = true
      · have HN : Hid (∀ i, n < i → i < j + 1 → innerB (byteAt s i) = true) := fun i h1 h2 => by
          rcases Nat.lt_or_ge i j with h | h
          · exact HA.out i h1 h
          · obtain rfl : i = j := by omega
            rw [HIN.out, hin]
        have h95 := G3.out
        cases b1 <;> cases b2 <;> cases b3
        all_goals first
          | (exfalso; revert hin; decide)
          | (clear hin
             go_wp2_with (first
              | (go_at_call 63; refine (rletter_r _ y0 y1 _ G1.out _).mono ?_; rintro e w' ⟨rfl, rfl⟩)
              | (go_at_call 64; refine (rdigit_r _ y0 y1 _ G2.out _).mono ?_; rintro e w' ⟨rfl, rfl⟩))
             go_round
             case rel => exact ⟨j + 1, by go_num, by omega, by omega, HN⟩
             case measure => simp [intOf]; omega)
      · obtain ⟨rfl, rfl, rfl⟩ : b1 = false ∧ b2 = false ∧ b3 = false := by revert hin; cases b1 <;> cases b2 <;> cases b3 <;> simp
        clear hin
        have h95 := G3.out
        have HMM : Hid (j < s.size → innerB (byteAt s j) = false) := fun _ => HIN.out
        by_cases h32 : 32 < j - n
        · have HH := Lib.hid h32
          have h32' : (32 : Int) < (j : Int) - (n : Int) := by omega
          go_wp2_with (first
              | (go_at_call 63; refine (rletter_r _ y0 y1 _ G1.out _).mono ?_; rintro e w' ⟨rfl, rfl⟩)
              | (go_at_call 64; refine (rdigit_r _ y0 y1 _ G2.out _).mono ?_; rintro e w' ⟨rfl, rfl⟩))
          refine bodyPost_ret (results_cell_row_tmp rfl _ _ w.heap.size 72 #[.int .i64 0, .string ⟨#[]⟩, .int .i64 0] (0, 0) _ rfl (heap_alloc_new _ _) Tryd.underlying72 rfl rfl) rfl ?_
          exact ⟨⟨0, ⟨#[]⟩, 0, n, rfl, next_long HL0.out (by omega) (by omega) HA.out HMM.out HH.out _ _⟩, (Below.refl _ _).alloc (Nat.le_refl _) _⟩
        · have HH := Lib.hid h32
          have h32' : decide ((32 : Int) < (j : Int) - (n : Int)) = false := decide_eq_false (by omega)
          go_wp2_with (first
              | (go_at_call 63; refine (rletter_r _ y0 y1 _ G1.out _).mono ?_; rintro e w' ⟨rfl, rfl⟩)
              | (go_at_call 64; refine (rdigit_r _ y0 y1 _ G2.out _).mono ?_; rintro e w' ⟨rfl, rfl⟩))
          refine bodyPost_ret (results_cell_row_tmp rfl _ _ w.heap.size 72 #[.int .i64 1, .string (s.extract n j), .int .i64 n] (0, 0) _ rfl (heap_alloc_new _ _) Tryd.underlying72 rfl rfl) rfl ?_
          exact ⟨⟨1, s.extract n j, n, -1, rfl, next_word HL0.out (by omega) (by omega) HA.out HMM.out HH.out⟩, (Below.refl _ _).alloc (Nat.le_refl _) _⟩
    · have hje : j = s.size := by omega
      have HMM : Hid (j < s.size → innerB (byteAt s j) = false) := fun h => absurd h (by omega)
      by_cases h32 : 32 < j - n
      · have HH := Lib.hid h32
        have h32' : (32 : Int) < (j : Int) - (n : Int) := by omega
        have hno : decide ((j : Int) < (s.size : Int)) = false := decide_eq_false (by omega)
        clear hje
        go_wp2
        refine bodyPost_ret (results_cell_row_tmp rfl _ _ w.heap.size 72 #[.int .i64 0, .string ⟨#[]⟩, .int .i64 0] (0, 0) _ rfl (heap_alloc_new _ _) Tryd.underlying72 rfl rfl) rfl ?_
        exact ⟨⟨0, ⟨#[]⟩, 0, n, rfl, next_long HL0.out (by omega) (by omega) HA.out HMM.out HH.out _ _⟩, (Below.refl _ _).alloc (Nat.le_refl _) _⟩
      · have HH := Lib.hid h32
        have h32' : decide ((32 : Int) < (j : Int) - (n : Int)) = false := decide_eq_false (by omega)
        have hno : decide ((j : Int) < (s.size : Int)) = false := decide_eq_false (by omega)
        clear hje
        go_wp2
        refine bodyPost_ret (results_cell_row_tmp rfl _ _ w.heap.size 72 #[.int .i64 1, .string (s.extract n j), .int .i64 n] (0, 0) _ rfl (heap_alloc_new _ _) Tryd.underlying72 rfl rfl) rfl ?_
        exact ⟨⟨1, s.extract n j, n, -1, rfl, next_word HL0.out (by omega) (by omega) HA.out HMM.out HH.out⟩, (Below.refl _ _).alloc (Nat.le_refl _) _⟩

set_option maxHeartbeats 8000000 in
set_option maxRecDepth 1000000 in
theorem next_digit (s : ByteArray) (hs : s.size ≤ 70000) (n : Nat) (hn : n < s.size) (hl : letterB (byteAt s n) = false) (hd : digitB (byteAt s n) = true) (w : World) :
    Calls Tryd.prog 57 #[.string s, .int .i64 n] w fun e w' => (∃ (kind : Int) (text : ByteArray) (at_ : Int) (wrong : Int), e = .returned (.tuple #[.agg #[.int .i64 kind, .string text, .int .i64 at_], .int .i64 wrong]) ∧ NextRes s n kind text wrong) ∧ Below w.heap.size w w' := by
  obtain ⟨x0, x1⟩ := byteAt_range s n
  rw [byteAt_of s n hn] at x0 x1 hd
  have hl0 := hl
  rw [byteAt_of s n hn] at hl
  have HL := Lib.hid hl
  have HL0 := Lib.hid hl0
  have HDG := Lib.hid hd
  clear hl hl0 hd
  go_enter Tryd.func57, Tryd.ntmps57
  go_wp2_with (first
    | (go_at_call 63; refine (rletter_r _ x0 x1 _ HL.out _).mono ?_; rintro e w' ⟨rfl, rfl⟩)
    | (go_at_call 64; refine (rdigit_r _ x0 x1 _ HDG.out _).mono ?_; rintro e w' ⟨rfl, rfl⟩))
  go_loop [8] (fun i => ∃ j : Nat, i = .int .i64 j ∧ n + 1 ≤ j ∧ j ≤ s.size) (fun i => s.size - (intOf i).toNat)
  case atStart => exact ⟨n + 1, by go_num, by omega, by omega⟩
  case round =>
    obtain ⟨j, rfl, hj0, hj⟩ := hrel
    by_cases hjt : j < s.size
    · obtain ⟨y0, y1⟩ := byteAt_range s j
      rw [byteAt_of s j hjt] at y0 y1
      obtain ⟨b2, g2⟩ : ∃ b, digitB ((s[j]'hjt).toNat : Int) = b := ⟨_, rfl⟩
      obtain ⟨b1, g1⟩ : ∃ b, letterB ((s[j]'hjt).toNat : Int) = b := ⟨_, rfl⟩
      obtain ⟨b3, h95⟩ : ∃ b, (((s[j]'hjt).toNat : Int) == 95) = b := ⟨_, rfl⟩
      have G1 := Lib.hid g1
      have G2 := Lib.hid g2
      clear g1 g2
      cases b2 with
      | true =>
        go_wp2_with (go_at_call 64; refine (rdigit_r _ y0 y1 _ G2.out _).mono ?_; rintro e w' ⟨rfl, rfl⟩)
        go_round
        case rel => exact ⟨j + 1, by go_num, by omega, by omega⟩
        case measure => simp [intOf]; omega
      | false =>
        cases b1 with
        | true =>
          go_wp2_with (first
            | (go_at_call 64; refine (rdigit_r _ y0 y1 _ G2.out _).mono ?_; rintro e w' ⟨rfl, rfl⟩)
            | (go_at_call 63; refine (rletter_r _ y0 y1 _ G1.out _).mono ?_; rintro e w' ⟨rfl, rfl⟩))
          refine bodyPost_ret (results_cell_row_tmp rfl _ _ w.heap.size 72 #[.int .i64 0, .string ⟨#[]⟩, .int .i64 0] (0, 0) _ rfl (heap_alloc_new _ _) Tryd.underlying72 rfl rfl) rfl ?_
          exact ⟨⟨0, ⟨#[]⟩, 0, j, rfl, next_other HL0.out (by decide) (fun h => (by omega)) (by omega)⟩, (Below.refl _ _).alloc (Nat.le_refl _) _⟩
        | false =>
          cases b3 with
          | true =>
            go_wp2_with (first
              | (go_at_call 64; refine (rdigit_r _ y0 y1 _ G2.out _).mono ?_; rintro e w' ⟨rfl, rfl⟩)
              | (go_at_call 63; refine (rletter_r _ y0 y1 _ G1.out _).mono ?_; rintro e w' ⟨rfl, rfl⟩))
            refine bodyPost_ret (results_cell_row_tmp rfl _ _ w.heap.size 72 #[.int .i64 0, .string ⟨#[]⟩, .int .i64 0] (0, 0) _ rfl (heap_alloc_new _ _) Tryd.underlying72 rfl rfl) rfl ?_
            exact ⟨⟨0, ⟨#[]⟩, 0, j, rfl, next_other HL0.out (by decide) (fun h => (by omega)) (by omega)⟩, (Below.refl _ _).alloc (Nat.le_refl _) _⟩
          | false =>
            go_wp2_with (first
              | (go_at_call 64; refine (rdigit_r _ y0 y1 _ G2.out _).mono ?_; rintro e w' ⟨rfl, rfl⟩)
              | (go_at_call 63; refine (rletter_r _ y0 y1 _ G1.out _).mono ?_; rintro e w' ⟨rfl, rfl⟩))
            refine bodyPost_ret (results_cell_row_tmp rfl _ _ w.heap.size 72 #[.int .i64 2, .string (s.extract n (j)), .int .i64 n] (0, 0) _ rfl (heap_alloc_new _ _) Tryd.underlying72 rfl rfl) rfl ?_
            exact ⟨⟨2, s.extract n (j), n, -1, rfl, next_other HL0.out (by decide) (fun h => (by rw [ByteArray.size_extract]; omega)) (by omega)⟩, (Below.refl _ _).alloc (Nat.le_refl _) _⟩
    · have hno : decide ((j : Int) < (s.size : Int)) = false := decide_eq_false (by omega)
      go_wp2
      refine bodyPost_ret (results_cell_row_tmp rfl _ _ w.heap.size 72 #[.int .i64 2, .string (s.extract n (j)), .int .i64 n] (0, 0) _ rfl (heap_alloc_new _ _) Tryd.underlying72 rfl rfl) rfl ?_
      exact ⟨⟨2, s.extract n (j), n, -1, rfl, next_other HL0.out (by decide) (fun h => (by rw [ByteArray.size_extract]; omega)) (by omega)⟩, (Below.refl _ _).alloc (Nat.le_refl _) _⟩

set_option maxHeartbeats 8000000 in
set_option maxRecDepth 1000000 in
theorem next_sign (s : ByteArray) (hs : s.size ≤ 70000) (n : Nat) (hn : n < s.size) (hl : letterB (byteAt s n) = false) (hd : digitB (byteAt s n) = false) (w : World) :
    Calls Tryd.prog 57 #[.string s, .int .i64 n] w fun e w' => (∃ (kind : Int) (text : ByteArray) (at_ : Int) (wrong : Int), e = .returned (.tuple #[.agg #[.int .i64 kind, .string text, .int .i64 at_], .int .i64 wrong]) ∧ NextRes s n kind text wrong) ∧ Below w.heap.size w w' := by
  obtain ⟨x0, x1⟩ := byteAt_range s n
  rw [byteAt_of s n hn] at x0 x1 hd
  have hl0 := hl
  rw [byteAt_of s n hn] at hl
  have HL := Lib.hid hl
  have HL0 := Lib.hid hl0
  have HDG := Lib.hid hd
  clear hl hl0 hd
  obtain ⟨q, hq⟩ : ∃ q, inB ⟨#[40, 41, 123, 125, 91, 93, 44, 59, 61, 43, 45, 42, 47, 37, 60, 33, 38, 124]⟩ ((s[n]'hn).toNat : Int) 18 = q := ⟨_, rfl⟩
  have HI := Lib.hid hq
  clear hq
  cases q with
  | false =>
    go_enter Tryd.func57, Tryd.ntmps57
    go_wp2_with (first
      | (go_at_call 63; refine (rletter_r _ x0 x1 _ HL.out _).mono ?_; rintro e w' ⟨rfl, rfl⟩)
      | (go_at_call 64; refine (rdigit_r _ x0 x1 _ HDG.out _).mono ?_; rintro e w' ⟨rfl, rfl⟩)
      | (go_at_call 62; refine (in_r _ (by decide) _ _ HI.out _).mono ?_; rintro e w' ⟨rfl, rfl⟩))
    refine bodyPost_ret (results_cell_row_tmp rfl _ _ w.heap.size 72 #[.int .i64 0, .string ⟨#[]⟩, .int .i64 0] (0, 0) _ rfl (heap_alloc_new _ _) Tryd.underlying72 rfl rfl) rfl ?_
    exact ⟨⟨0, ⟨#[]⟩, 0, n, rfl, next_other HL0.out (by decide) (fun h => (by omega)) (by omega)⟩, (Below.refl _ _).alloc (Nat.le_refl _) _⟩
  | true =>
    obtain ⟨b, h61⟩ : ∃ b, (((s[n]'hn).toNat : Int) == 61) = b := ⟨_, rfl⟩
    cases b with
    | false =>
      go_enter Tryd.func57, Tryd.ntmps57
      go_wp2_with (first
        | (go_at_call 63; refine (rletter_r _ x0 x1 _ HL.out _).mono ?_; rintro e w' ⟨rfl, rfl⟩)
        | (go_at_call 64; refine (rdigit_r _ x0 x1 _ HDG.out _).mono ?_; rintro e w' ⟨rfl, rfl⟩)
        | (go_at_call 62; refine (in_r _ (by decide) _ _ HI.out _).mono ?_; rintro e w' ⟨rfl, rfl⟩))
      refine bodyPost_ret (results_cell_row_tmp rfl _ _ w.heap.size 72 #[.int .i64 3, .string (s.extract n (n + 1)), .int .i64 n] (0, 0) _ rfl (heap_alloc_new _ _) Tryd.underlying72 rfl rfl) rfl ?_
      exact ⟨⟨3, s.extract n (n + 1), n, -1, rfl, next_other HL0.out (by decide) (fun h => (by rw [ByteArray.size_extract]; omega)) (by omega)⟩, (Below.refl _ _).alloc (Nat.le_refl _) _⟩
    | true =>
      by_cases hn1 : n + 1 < s.size
      · obtain ⟨b', h61'⟩ : ∃ b, (((s[n + 1]'hn1).toNat : Int) == 61) = b := ⟨_, rfl⟩
        cases b' with
        | false =>
          go_enter Tryd.func57, Tryd.ntmps57
          go_wp2_with (first
            | (go_at_call 63; refine (rletter_r _ x0 x1 _ HL.out _).mono ?_; rintro e w' ⟨rfl, rfl⟩)
            | (go_at_call 64; refine (rdigit_r _ x0 x1 _ HDG.out _).mono ?_; rintro e w' ⟨rfl, rfl⟩)
            | (go_at_call 62; refine (in_r _ (by decide) _ _ HI.out _).mono ?_; rintro e w' ⟨rfl, rfl⟩))
          refine bodyPost_ret (results_cell_row_tmp rfl _ _ w.heap.size 72 #[.int .i64 3, .string (s.extract n (n + 1)), .int .i64 n] (0, 0) _ rfl (heap_alloc_new _ _) Tryd.underlying72 rfl rfl) rfl ?_
          exact ⟨⟨3, s.extract n (n + 1), n, -1, rfl, next_other HL0.out (by decide) (fun h => (by rw [ByteArray.size_extract]; omega)) (by omega)⟩, (Below.refl _ _).alloc (Nat.le_refl _) _⟩
        | true =>
          go_enter Tryd.func57, Tryd.ntmps57
          go_wp2_with (first
            | (go_at_call 63; refine (rletter_r _ x0 x1 _ HL.out _).mono ?_; rintro e w' ⟨rfl, rfl⟩)
            | (go_at_call 64; refine (rdigit_r _ x0 x1 _ HDG.out _).mono ?_; rintro e w' ⟨rfl, rfl⟩)
            | (go_at_call 62; refine (in_r _ (by decide) _ _ HI.out _).mono ?_; rintro e w' ⟨rfl, rfl⟩))
          refine bodyPost_ret (results_cell_row_tmp rfl _ _ w.heap.size 72 #[.int .i64 3, .string (s.extract n (n + 2)), .int .i64 n] (0, 0) _ rfl (heap_alloc_new _ _) Tryd.underlying72 rfl rfl) rfl ?_
          exact ⟨⟨3, s.extract n (n + 2), n, -1, rfl, next_other HL0.out (by decide) (fun h => (by rw [ByteArray.size_extract]; omega)) (by omega)⟩, (Below.refl _ _).alloc (Nat.le_refl _) _⟩
      · have hno : decide (((n : Int) + 1) < (s.size : Int)) = false := decide_eq_false (by omega)
        go_enter Tryd.func57, Tryd.ntmps57
        go_wp2_with (first
          | (go_at_call 63; refine (rletter_r _ x0 x1 _ HL.out _).mono ?_; rintro e w' ⟨rfl, rfl⟩)
          | (go_at_call 64; refine (rdigit_r _ x0 x1 _ HDG.out _).mono ?_; rintro e w' ⟨rfl, rfl⟩)
          | (go_at_call 62; refine (in_r _ (by decide) _ _ HI.out _).mono ?_; rintro e w' ⟨rfl, rfl⟩))
        refine bodyPost_ret (results_cell_row_tmp rfl _ _ w.heap.size 72 #[.int .i64 3, .string (s.extract n (n + 1)), .int .i64 n] (0, 0) _ rfl (heap_alloc_new _ _) Tryd.underlying72 rfl rfl) rfl ?_
        exact ⟨⟨3, s.extract n (n + 1), n, -1, rfl, next_other HL0.out (by decide) (fun h => (by rw [ByteArray.size_extract]; omega)) (by omega)⟩, (Below.refl _ _).alloc (Nat.le_refl _) _⟩

theorem next_r (s : ByteArray) (hs : s.size ≤ 70000) (n : Nat) (hn : n < s.size) (w : World) :
    Calls Tryd.prog 57 #[.string s, .int .i64 n] w fun e w' => (∃ (kind : Int) (text : ByteArray) (at_ : Int) (wrong : Int), e = .returned (.tuple #[.agg #[.int .i64 kind, .string text, .int .i64 at_], .int .i64 wrong]) ∧ NextRes s n kind text wrong) ∧ Below w.heap.size w w' := by
  cases hl : letterB (byteAt s n) with
  | true => exact next_letter s hs n hn hl w
  | false =>
    cases hd : digitB (byteAt s n) with
    | true => exact next_digit s hs n hn hl hd w
    | false => exact next_sign s hs n hn hl hd w
end Go.Proofs.YtplckmpamekloaaDoor
