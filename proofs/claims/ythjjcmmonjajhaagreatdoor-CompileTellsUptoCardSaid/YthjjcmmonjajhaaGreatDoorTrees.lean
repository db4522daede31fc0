/- What every walk of the tree layer uses. tree.Name computes nameB. tree.Name computes nameB: the searches, and Name. Expressions, statements, functions in memory, as trees. (shape).fits computes fitsB. The tables of shapes, as they were laid. What the tree's calls compute, as plain functions. -/
import Derived.Test.YthjjcmmonjajhaaGreatDoorProg
import Derived.WalkKit
import Derived.WalkSpells
import Derived.WalkLawsBesides
import Derived.Deep.RegionWith
import Derived.Deep.Cut
import Derived.Deep.CutRange
import Derived.Deep.DeepCutAuto
import Derived.Deep.RegionHeld3
import Derived.Lib.SmallJoins
import Derived.Lib.Hide
import Derived.Laws.BytesArg
namespace Go.Proofs.YthjjcmmonjajhaaGreatDoor
open Go.RowKit Go.Sort
set_option linter.unusedVariables false
theorem hb_start (w : World) : Hid (Below w.heap.size w w) := Below.refl _ _
theorem hb_step {w0 w w' : World} (h : Hid (Below w0.heap.size w0 w)) (h' : Below w.heap.size w w') : Hid (Below w0.heap.size w0 w') :=
  Below.trans h.out (h'.mono h.out.size)
theorem hb_alloc {w0 w : World} (h : Hid (Below w0.heap.size w0 w)) (o : Obj) : Hid (Below w0.heap.size w0 (w.alloc o)) := Below.alloc h.out h.out.size o
theorem hb_drew {w0 w : World} (h : Hid (Below w0.heap.size w0 w)) : Hid (Below w0.heap.size w0 w.drew) := Below.drew h.out
theorem lt_of_cell {w : World} {b o : Nat} {v : Value} (h : w.cell? ⟨b, o, none⟩ = some v) : b < w.heap.size := by
  rcases Nat.lt_or_ge b w.heap.size with h' | h'
  · exact h'
  · simp [World.cell?, Array.getElem?_eq_none h'] at h
theorem lt_of_heap {w : World} {b : Nat} {o : Obj} (h : w.heap[b]? = some o) : b < w.heap.size := (Array.getElem?_eq_some_iff.1 h).1
end Go.Proofs.YthjjcmmonjajhaaGreatDoor
namespace Go.Proofs.YthjjcmmonjajhaaGreatDoor
open Go.RowKit Go.Sort
set_option linter.unusedVariables false

def letterB (c : Int) : Bool := decide (65 ≤ c ∧ c ≤ 90) || decide (97 ≤ c ∧ c ≤ 122)
def innerB (c : Int) : Bool := letterB c || decide (48 ≤ c ∧ c ≤ 57) || decide (c = 95)
theorem letter_or (c : Int) (h0 : 0 ≤ c) (h1 : c ≤ 255) : ∃ d : Int, Go.bits .or .u8 c 32 = d ∧ ((97 ≤ d ∧ d ≤ 122 ∧ letterB c = true) ∨ (d < 97 ∧ letterB c = false) ∨ (97 ≤ d ∧ 122 < d ∧ letterB c = false)) := by
  have key : ∀ i : Fin 256, (97 ≤ Go.bits .or .u8 (i.val : Int) 32 ∧ Go.bits .or .u8 (i.val : Int) 32 ≤ 122 ∧ letterB (i.val : Int) = true) ∨ (Go.bits .or .u8 (i.val : Int) 32 < 97 ∧ letterB (i.val : Int) = false) ∨ (97 ≤ Go.bits .or .u8 (i.val : Int) 32 ∧ 122 < Go.bits .or .u8 (i.val : Int) 32 ∧ letterB (i.val : Int) = false) := by decide +kernel
  obtain ⟨n, rfl⟩ : ∃ n : Nat, c = (n : Int) := ⟨c.toNat, by omega⟩
  exact ⟨_, rfl, key ⟨n, by omega⟩⟩

set_option maxHeartbeats 1000000 in
set_option maxRecDepth 1000000 in
theorem letter_r (c : Int) (h0 : 0 ≤ c) (h1 : c ≤ 255) (b : Bool) (hb : letterB c = b) (w : World) :
    Calls Tryz.prog 59 #[.int .u8 c] w fun e w' => e = .returned (.bool b) ∧ w' = w := by
  obtain ⟨d, hd, hc⟩ := letter_or c h0 h1
  rcases hc with ⟨d1, d2, e⟩ | ⟨d1, e⟩ | ⟨d1, d2, e⟩
  rotate_left 2
  have d3 : ¬ d ≤ 122 := by omega
  clear d2
  rotate_left 1
  all_goals
    obtain rfl := hb.symm.trans e
    clear hb e
    go_enter Tryz.func59, Tryz.ntmps59
    go_wp2
    go_ret
    exact ⟨rfl, rfl⟩

theorem inner_cases (c : Int) : (letterB c = true ∧ innerB c = true) ∨ (letterB c = false ∧ (c < 48 ∧ (c == 95) = false) ∧ innerB c = false) ∨ (letterB c = false ∧ 48 ≤ c ∧ c ≤ 57 ∧ innerB c = true) ∨ (letterB c = false ∧ 48 ≤ c ∧ ¬ c ≤ 57 ∧ (c == 95) = true ∧ innerB c = true) ∨ (letterB c = false ∧ 48 ≤ c ∧ decide (c ≤ 57) = false ∧ (c == 95) = false ∧ innerB c = false) := by
  unfold innerB
  cases letterB c with
  | true => simp
  | false =>
    by_cases h1 : c < 48
    · right; left; refine ⟨rfl, ⟨h1, by simp; omega⟩, ?_⟩; simp; omega
    · by_cases h2 : c ≤ 57
      · right; right; left; refine ⟨rfl, by omega, h2, ?_⟩; simp; omega
      · by_cases h3 : c = 95
        · right; right; right; left; subst h3; simp
        · right; right; right; right; refine ⟨rfl, by omega, decide_eq_false h2, by simpa using h3, ?_⟩; simp; omega

set_option maxHeartbeats 1000000 in
set_option maxRecDepth 1000000 in
theorem inner_r (c : Int) (h0 : 0 ≤ c) (h1 : c ≤ 255) (b : Bool) (hb : innerB c = b) (w : World) :
    Calls Tryz.prog 64 #[.int .u8 c] w fun e w' => e = .returned (.bool b) ∧ w' = w := by
  rcases inner_cases c with ⟨l, e⟩ | ⟨l, ⟨d1, d4⟩, e⟩ | ⟨l, d1, d2, e⟩ | ⟨l, d1, d2, d3, e⟩ | ⟨l, d1, d2, d3, e⟩
  all_goals
    obtain rfl := hb.symm.trans e
    have HL := Lib.hid l
    clear hb e l
    go_enter Tryz.func64, Tryz.ntmps64
    go_wp2_with (go_at_call 59; refine (letter_r _ h0 h1 _ HL.out _).mono ?_; rintro e w' ⟨rfl, rfl⟩)
    go_ret
    exact ⟨rfl, rfl⟩

set_option maxHeartbeats 1000000 in
set_option maxRecDepth 1000000 in
theorem name1_r (c : Int) (h0 : 0 ≤ c) (h1 : c ≤ 255) (b : Bool) (hb : (!innerB c) = b) (w : World) :
    Calls Tryz.prog 63 #[.int .u8 c] w fun e w' => e = .returned (.bool b) ∧ w' = w := by
  obtain ⟨i, hi⟩ : ∃ i, innerB c = i := ⟨_, rfl⟩
  rw [hi] at hb
  subst hb
  have HI := Lib.hid hi
  clear hi
  cases i
  all_goals
    go_enter Tryz.func63, Tryz.ntmps63
    go_wp2_with (go_at_call 64; refine (inner_r _ h0 h1 _ HI.out _).mono ?_; rintro e w' ⟨rfl, rfl⟩)
    go_ret
    exact ⟨rfl, rfl⟩

def kwCells : Array Value := #[.string ⟨#[102, 117, 110, 99]⟩, .string ⟨#[97, 114, 114, 97, 121]⟩, .string ⟨#[105, 110, 112, 117, 116]⟩, .string ⟨#[112, 114, 105, 110, 116]⟩, .string ⟨#[107, 101, 101, 112]⟩, .string ⟨#[105, 102]⟩, .string ⟨#[101, 108, 115, 101]⟩, .string ⟨#[119, 104, 105, 108, 101]⟩, .string ⟨#[114, 101, 116, 117, 114, 110]⟩, .string ⟨#[99, 108, 111, 99, 107]⟩]
set_option maxHeartbeats 1000000 in
set_option maxRecDepth 1000000 in
theorem keywords_r (w : World) :
    Calls Tryz.prog 61 #[] w fun e w' => e = .returned (.slice (some ⟨w.heap.size, 0, none⟩) 10 10) ∧ w' = w.alloc (.cells kwCells 9) := by
  go_enter Tryz.func61, Tryz.ntmps61
  go_wp2
  go_ret
  exact ⟨rfl, rfl⟩

/-- Strings in a row of cells. -/
def StrIn (w : World) (b off : Nat) (l : List ByteArray) : Prop := ∀ i, i < l.length → w.cell? ⟨b, off + i, none⟩ = some (.string (l.getD i ByteArray.empty))

set_option maxHeartbeats 2000000 in
set_option maxRecDepth 1000000 in
theorem index_r (b off cap : Nat) (l : List ByteArray) (hl : l.length ≤ 1000000000) (hc : l.length ≤ cap) (s : ByteArray) (w : World) (hi : StrIn w b off l) :
    Calls Tryz.prog 57 #[.slice (some ⟨b, off, none⟩) l.length cap, .string s] w fun e w' => (∃ r : Int, e = .returned (.int .i64 r) ∧ decide (0 ≤ r) = l.any (fun x => s.toList == x.toList) ∧ -1 ≤ r ∧ r ≤ 1000000000) ∧ w' = w := by
  have HI := Lib.hid hi
  clear hi
  go_enter Tryz.func57, Tryz.ntmps57
  go_wp2
  go_loopw [8] (fun i wr => ∃ k : Nat, i = .int .i64 k ∧ k ≤ l.length ∧ wr = w ∧ Hid ((l.take k).any (fun x => s.toList == x.toList) = false)) (fun i _ => l.length - (intOf i).toNat)
  case atStart => exact ⟨0, rfl, by omega, rfl, by show _ = _; simp⟩
  case round =>
    obtain ⟨k, rfl, hk, rfl, HA⟩ := hrel
    by_cases hlt : k < l.length
    · have hcell := HI.out k hlt
      have htk : l.take (k + 1) = l.take k ++ [l.getD k ByteArray.empty] := by
        rw [List.take_succ_eq_append_getElem hlt, List.getD_eq_getElem?_getD, List.getElem?_eq_getElem hlt]; rfl
      have hmem : l.getD k ByteArray.empty ∈ l := by
        rw [List.getD_eq_getElem?_getD, List.getElem?_eq_getElem hlt]; exact List.getElem_mem _
      generalize l.getD k ByteArray.empty = x at hcell htk hmem
      obtain ⟨q, hq⟩ : ∃ q, (s.toList == x.toList) = q := ⟨_, rfl⟩
      have HQ := Lib.hid hq
      have HT := Lib.hid htk
      have HM := Lib.hid hmem
      clear htk hmem
      cases q with
      | true =>
        go_wp2
        go_ret
        refine ⟨⟨(k : Int), rfl, ?_, by omega, by omega⟩, rfl⟩
        rw [decide_eq_true (by omega)]
        exact (List.any_eq_true.2 ⟨x, HM.out, HQ.out⟩).symm
      | false =>
        go_wp2
        go_roundw
        case rel => exact ⟨k + 1, by go_num, by omega, trivial, by show _ = _; rw [HT.out, List.any_append, HA.out]; simp only [List.any_cons, List.any_nil, Bool.or_false, Bool.false_or]; exact HQ.out⟩
        case measure => simp [intOf]; omega
    · obtain rfl : k = l.length := by omega
      go_wp2
      go_ret
      refine ⟨⟨-1, rfl, ?_, by omega, by omega⟩, rfl⟩
      have := HA.out
      rw [List.take_length] at this
      rw [this]; rfl
end Go.Proofs.YthjjcmmonjajhaaGreatDoor
namespace Go.Proofs.YthjjcmmonjajhaaGreatDoor
open Go.RowKit Go.Sort
set_option linter.unusedVariables false

set_option maxHeartbeats 1000000 in
set_option maxRecDepth 1000000 in
theorem contains_r (b off cap : Nat) (l : List ByteArray) (hl : l.length ≤ 1000000000) (hc : l.length ≤ cap) (s : ByteArray) (q : Bool) (hq : l.any (fun x => s.toList == x.toList) = q) (w : World) (hi : StrIn w b off l) :
    Calls Tryz.prog 60 #[.slice (some ⟨b, off, none⟩) l.length cap, .string s] w fun e w' => e = .returned (.bool q) ∧ w' = w := by
  have HI := Lib.hid hi
  have HQ := Lib.hid hq
  clear hi hq
  cases q
  all_goals
    go_enter Tryz.func60, Tryz.ntmps60
    go_wp2_with (go_at_call 57; refine (index_r b off cap l hl hc s _ HI.out).mono ?_; rintro e w' ⟨⟨r, rfl, hr, hr0, hr1⟩, rfl⟩; have hr2 := hr.trans HQ.out; clear hr)
    go_ret
    exact ⟨rfl, rfl⟩

theorem kw_in (w : World) : StrIn (w.alloc (.cells kwCells 9)) w.heap.size 0 [⟨#[102, 117, 110, 99]⟩, ⟨#[97, 114, 114, 97, 121]⟩, ⟨#[105, 110, 112, 117, 116]⟩, ⟨#[112, 114, 105, 110, 116]⟩, ⟨#[107, 101, 101, 112]⟩, ⟨#[105, 102]⟩, ⟨#[101, 108, 115, 101]⟩, ⟨#[119, 104, 105, 108, 101]⟩, ⟨#[114, 101, 116, 117, 114, 110]⟩, ⟨#[99, 108, 111, 99, 107]⟩] := by
  intro i hi
  have : i < 10 := hi
  have hc : (w.alloc (.cells kwCells 9)).cell? ⟨w.heap.size, 0 + i, none⟩ = kwCells[0 + i]? := by simp
  rw [hc]
  have : i = 0 ∨ i = 1 ∨ i = 2 ∨ i = 3 ∨ i = 4 ∨ i = 5 ∨ i = 6 ∨ i = 7 ∨ i = 8 ∨ i = 9 := by omega
  rcases this with rfl | rfl | rfl | rfl | rfl | rfl | rfl | rfl | rfl | rfl <;> rfl

def byteAt (s : ByteArray) (i : Nat) : Int := if h : i < s.size then ((s[i]'h).toNat : Int) else 0
theorem byteAt_range (s : ByteArray) (i : Nat) : 0 ≤ byteAt s i ∧ byteAt s i ≤ 255 := by
  unfold byteAt; split
  · rename_i h; have := (s[i]'h).toNat_lt; omega
  · omega
def BytesIn (w : World) (b off : Nat) (s : ByteArray) : Prop := ∀ i, i < s.size → w.cell? ⟨b, off + i, none⟩ = some (.int .u8 (byteAt s i))
/-- Some byte from place k on, of the first n, is none that may stand in a name. -/
def anyBad (s : ByteArray) (k : Nat) : Bool := (List.range k).any fun i => !innerB (byteAt s i)

theorem anyBad_next (s : ByteArray) (k : Nat) : anyBad s (k + 1) = (anyBad s k || !innerB (byteAt s k)) := by
  unfold anyBad; rw [List.range_succ, List.any_append]; simp
theorem anyBad_mem (s : ByteArray) (n k : Nat) (hk : k < n) (h : (!innerB (byteAt s k)) = true) : anyBad s n = true := by
  unfold anyBad; exact List.any_eq_true.2 ⟨k, List.mem_range.2 hk, h⟩

set_option maxHeartbeats 2000000 in
set_option maxRecDepth 1000000 in
theorem indexf_r (b off cap : Nat) (s : ByteArray) (hl : s.size ≤ 1000000000) (hc : s.size ≤ cap) (w : World) (hi : BytesIn w b off s) :
    Calls Tryz.prog 81 #[.slice (some ⟨b, off, none⟩) s.size cap, .func (.func 63) #[] #[]] w fun e w' => (∃ r : Int, e = .returned (.int .i64 r) ∧ decide (0 ≤ r) = anyBad s s.size ∧ -1 ≤ r ∧ r ≤ 1000000000) ∧ w' = w := by
  have HI := Lib.hid hi
  clear hi
  go_enter Tryz.func81, Tryz.ntmps81
  go_wp2
  go_loopw [8] (fun i wr => ∃ k : Nat, i = .int .i64 k ∧ k ≤ s.size ∧ wr = w ∧ Hid (anyBad s k = false)) (fun i _ => s.size - (intOf i).toNat)
  case atStart => exact ⟨0, rfl, by omega, rfl, rfl⟩
  case round =>
    obtain ⟨k, rfl, hk, rfl, HA⟩ := hrel
    by_cases hlt : k < s.size
    · have hcell := HI.out k hlt
      obtain ⟨x0, x1⟩ := byteAt_range s k
      have hnx := anyBad_next s k
      have hmm := anyBad_mem s s.size k hlt
      generalize byteAt s k = x at hcell x0 x1 hnx hmm
      obtain ⟨q, hq⟩ : ∃ q, (!innerB x) = q := ⟨_, rfl⟩
      rw [hq] at hnx hmm
      have HQ := Lib.hid hq
      have HN := Lib.hid hnx
      have HM := Lib.hid hmm
      clear hq hnx hmm
      cases q with
      | true =>
        go_wp2_with (go_at_call 63; refine (name1_r x x0 x1 _ HQ.out _).mono ?_; rintro e w' ⟨rfl, rfl⟩)
        go_ret
        refine ⟨⟨(k : Int), rfl, ?_, by omega, by omega⟩, rfl⟩
        rw [decide_eq_true (by omega)]
        exact (by simpa using HM.out : anyBad s s.size = true).symm
      | false =>
        go_wp2_with (go_at_call 63; refine (name1_r x x0 x1 _ HQ.out _).mono ?_; rintro e w' ⟨rfl, rfl⟩)
        go_roundw
        case rel => exact ⟨k + 1, by go_num, by omega, trivial, by show _ = _; rw [HN.out, HA.out]; rfl⟩
        case measure => simp [intOf]; omega
    · obtain rfl : k = s.size := by omega
      go_wp2
      go_ret
      refine ⟨⟨-1, rfl, ?_, by omega, by omega⟩, rfl⟩
      rw [HA.out]; rfl

set_option maxHeartbeats 1000000 in
set_option maxRecDepth 1000000 in
theorem containsf_r (b off cap : Nat) (s : ByteArray) (hl : s.size ≤ 1000000000) (hc : s.size ≤ cap) (q : Bool) (hq : anyBad s s.size = q) (w : World) (hi : BytesIn w b off s) :
    Calls Tryz.prog 62 #[.slice (some ⟨b, off, none⟩) s.size cap, .func (.func 63) #[] #[]] w fun e w' => e = .returned (.bool q) ∧ w' = w := by
  have HI := Lib.hid hi
  have HQ := Lib.hid hq
  clear hi hq
  cases q
  all_goals
    go_enter Tryz.func62, Tryz.ntmps62
    go_wp2_with (go_at_call 81; refine (indexf_r b off cap s hl hc _ HI.out).mono ?_; rintro e w' ⟨⟨r, rfl, hr, hr0, hr1⟩, rfl⟩; have hr2 := hr.trans HQ.out; clear hr)
    go_ret
    exact ⟨rfl, rfl⟩

theorem byteAt_of (s : ByteArray) (i : Nat) (h : i < s.size) : byteAt s i = ((s[i]'h).toNat : Int) := by simp [byteAt, h]
theorem toList_ne {s : ByteArray} (h : 0 < s.size) : ¬ s.toList = [] := by
  have hl : s.toList.length = s.size := by rw [ByteArray.toList_eq]; cases s; rfl
  intro e; rw [e] at hl; simp at hl; omega
def kwL : List ByteArray := [⟨#[102, 117, 110, 99]⟩, ⟨#[97, 114, 114, 97, 121]⟩, ⟨#[105, 110, 112, 117, 116]⟩, ⟨#[112, 114, 105, 110, 116]⟩, ⟨#[107, 101, 101, 112]⟩, ⟨#[105, 102]⟩, ⟨#[101, 108, 115, 101]⟩, ⟨#[119, 104, 105, 108, 101]⟩, ⟨#[114, 101, 116, 117, 114, 110]⟩, ⟨#[99, 108, 111, 99, 107]⟩]
theorem bytes_in (w : World) (s : ByteArray) : BytesIn (Lib.bytesWorld w 5 s) w.heap.size 0 s := by
  intro i hi
  rw [Nat.zero_add, Lib.bytesWorld_cell w 5 s i hi, byteAt_of s i hi]
  have : s.data.toList.getD i 0 = s[i] := by
    rw [List.getD_eq_getElem?_getD, Array.getElem?_toList, Array.getElem?_eq_getElem (by exact hi)]; rfl
  rw [this]
def kwB (s : ByteArray) : Bool := kwL.any (fun x => s.toList == x.toList)
def nameB (s : ByteArray) : Bool := decide (0 < s.size ∧ s.size ≤ 32) && (letterB (byteAt s 0) && (!kwB s && !anyBad s s.size))

theorem conv_s (s : ByteArray) : ∃ (c : World → Nat) (f : World → World), (∀ W, s.size ≤ c W) ∧ (∀ W, Below W.heap.size W (f W)) ∧ (∀ W : World, BytesIn (f W) W.heap.size 0 s) ∧
    ∀ W : World, (convert 9 82 (.string s)).run Tryz.prog W = .ok (.slice (some ⟨W.heap.size, 0, none⟩) s.size (c W)) (f W) :=
  ⟨fun W => grownCap W s.size 0 5, fun W => Lib.bytesWorld W 5 s, fun W => grownCap_ge W _ _ _, fun W => Joins.below_bytesWorld _ _ _ _ (Nat.le_refl _), fun W => bytes_in W s,
    fun W => Lib.run_convert_string_bytes W 9 82 5 s Tryz.underlying9 Tryz.underlying82 Tryz.underlying5⟩

set_option maxHeartbeats 2000000 in
set_option maxRecDepth 1000000 in
theorem name_in (s : ByteArray) (h1 : 0 < s.size) (h2 : s.size ≤ 32) (hl : letterB (byteAt s 0) = true) (hk : kwB s = false) (q : Bool) (hq : anyBad s s.size = q) (w : World) :
    Calls Tryz.prog 34 #[.string s] w fun e w' => e = .returned (.bool (!q)) ∧ Below w.heap.size w w' := by
  have he : s.toList.isEmpty = false := by simpa using toList_ne h1
  have hd : decide (32 < (s.size : Int)) = false := decide_eq_false (by omega)
  obtain ⟨c, f, hc, hf, hin, hconv⟩ := conv_s s
  have HC := Lib.hid hc
  have HF := Lib.hid hf
  have HIN : Hid (∀ (W : World) (o : Obj), BytesIn (f (W.alloc o)) (W.heap.size + 1) 0 s) := fun W o => by
    have h := hin (W.alloc o)
    have e : (W.alloc o).heap.size = W.heap.size + 1 := Array.size_push ..
    rw [e] at h; exact h
  clear hc hf hin
  obtain ⟨x0, x1⟩ := byteAt_range s 0
  rw [byteAt_of s 0 h1] at hl x0 x1
  have HL := Lib.hid hl
  have HK := Lib.hid hk
  have HN := Lib.hid hq
  clear hl hk hq
  cases q
  all_goals
    go_enter Tryz.func34, Tryz.ntmps34
    go_wp2_with (first | (go_at_call 59; refine (letter_r _ x0 x1 _ HL.out _).mono ?_; rintro e w' ⟨rfl, rfl⟩) | (go_at_call 61; refine (keywords_r _).mono ?_; rintro e w' ⟨rfl, rfl⟩) | (go_at_call 60; refine (contains_r _ 0 10 kwL (by decide) (by decide) s false HK.out _ (kw_in _)).mono ?_; rintro e w' ⟨rfl, rfl⟩) | (go_at_call 62; refine (containsf_r _ 0 _ s (by omega) (HG.out _) _ HN.out _ (bytes_in _ _)).mono ?_; rintro e w' ⟨rfl, rfl⟩))
    go_at_call 62
    refine (containsf_r _ 0 _ s (by omega) (HC.out _) _ HN.out _ (HIN.out _ _)).mono ?_
    rintro e w2 ⟨rfl, rfl⟩
    go_wp2
    go_ret
    exact ⟨rfl, Below.trans ((Below.refl _ _).alloc (Nat.le_refl _) (.cells kwCells 9)) ((HF.out _).mono ((Below.alloc (Below.refl _ _) (Nat.le_refl _) (.cells kwCells 9)).size))⟩

set_option maxHeartbeats 2000000 in
set_option maxRecDepth 1000000 in
theorem name_no (s : ByteArray) (h : s.size = 0 ∨ 32 < s.size) (w : World) :
    Calls Tryz.prog 34 #[.string s] w fun e w' => e = .returned (.bool false) ∧ Below w.heap.size w w' := by
  rcases h with h | h
  · obtain rfl : s = ⟨#[]⟩ := by cases s with | mk d => have : d = #[] := Array.eq_empty_of_size_eq_zero h; subst this; rfl
    go_enter Tryz.func34, Tryz.ntmps34
    go_wp2
    go_ret
    exact ⟨rfl, Below.refl _ _⟩
  · have he : s.toList.isEmpty = false := by simpa using toList_ne (by omega : 0 < s.size)
    have hd : decide (32 < (s.size : Int)) = true := decide_eq_true (by omega)
    go_enter Tryz.func34, Tryz.ntmps34
    go_wp2
    go_ret
    exact ⟨rfl, Below.refl _ _⟩
set_option maxHeartbeats 2000000 in
set_option maxRecDepth 1000000 in
theorem name_not (s : ByteArray) (h1 : 0 < s.size) (h2 : s.size ≤ 32) (h : letterB (byteAt s 0) = false ∨ (letterB (byteAt s 0) = true ∧ kwB s = true)) (w : World) :
    Calls Tryz.prog 34 #[.string s] w fun e w' => e = .returned (.bool false) ∧ Below w.heap.size w w' := by
  have he : s.toList.isEmpty = false := by simpa using toList_ne h1
  have hd : decide (32 < (s.size : Int)) = false := decide_eq_false (by omega)
  obtain ⟨x0, x1⟩ := byteAt_range s 0
  rw [byteAt_of s 0 h1] at h x0 x1
  rcases h with h | ⟨h, hk⟩
  · have HL := Lib.hid h
    have HK : Hid True := trivial
    clear h
    go_enter Tryz.func34, Tryz.ntmps34
    go_wp2_with (go_at_call 59; refine (letter_r _ x0 x1 _ HL.out _).mono ?_; rintro e w' ⟨rfl, rfl⟩)
    go_ret
    exact ⟨rfl, Below.refl _ _⟩
  · have HL := Lib.hid h
    have HK := Lib.hid hk
    clear h hk
    go_enter Tryz.func34, Tryz.ntmps34
    go_wp2_with (first | (go_at_call 59; refine (letter_r _ x0 x1 _ HL.out _).mono ?_; rintro e w' ⟨rfl, rfl⟩) | (go_at_call 61; refine (keywords_r _).mono ?_; rintro e w' ⟨rfl, rfl⟩) | (go_at_call 60; refine (contains_r _ 0 10 kwL (by decide) (by decide) s true HK.out _ (kw_in _)).mono ?_; rintro e w' ⟨rfl, rfl⟩))
    go_ret
    exact ⟨rfl, (Below.refl _ _).alloc (Nat.le_refl _) _⟩
/-- Name, whatever the text. -/
theorem name_r (s : ByteArray) (b : Bool) (hb : nameB s = b) (w : World) :
    Calls Tryz.prog 34 #[.string s] w fun e w' => e = .returned (.bool b) ∧ Below w.heap.size w w' := by
  subst hb
  by_cases h : 0 < s.size ∧ s.size ≤ 32
  · by_cases hl : letterB (byteAt s 0) = true
    · by_cases hk : kwB s = true
      · have e : nameB s = false := by unfold nameB; rw [hk]; simp
        rw [e]; exact name_not s h.1 h.2 (.inr ⟨hl, hk⟩) w
      · have hk' : kwB s = false := by simpa using hk
        have e : nameB s = !anyBad s s.size := by unfold nameB; rw [hk', hl, decide_eq_true h]; simp
        rw [e]; exact name_in s h.1 h.2 hl hk' _ rfl w
    · have hl' : letterB (byteAt s 0) = false := by simpa using hl
      have e : nameB s = false := by unfold nameB; rw [hl']; simp
      rw [e]; exact name_not s h.1 h.2 (.inl hl') w
  · have e : nameB s = false := by unfold nameB; rw [decide_eq_false h]; rfl
    rw [e]; exact name_no s (by omega) w
end Go.Proofs.YthjjcmmonjajhaaGreatDoor
namespace Go.Proofs.YthjjcmmonjajhaaGreatDoor
open Go.RowKit Go.Sort
set_option linter.unusedVariables false

/-- An expression: its op, its number, its name, its parts. -/
inductive ET where
  | mk (op n : Int) (name : ByteArray) (l : List ET)
namespace ET
def op : ET → Int | mk o _ _ _ => o
def num : ET → Int | mk _ n _ _ => n
def name : ET → ByteArray | mk _ _ s _ => s
def parts : ET → List ET | mk _ _ _ l => l
end ET
instance : Inhabited ET := ⟨.mk 0 0 ByteArray.empty []⟩
/-- A statement: its op, its name, its number, its expressions, its bodies. -/
inductive ST where
  | mk (op n : Int) (name : ByteArray) (l : List ET) (body els : List ST)
namespace ST
def op : ST → Int | mk o _ _ _ _ _ => o
def num : ST → Int | mk _ n _ _ _ _ => n
def name : ST → ByteArray | mk _ _ s _ _ _ => s
def parts : ST → List ET | mk _ _ _ l _ _ => l
def body : ST → List ST | mk _ _ _ _ b _ => b
def els : ST → List ST | mk _ _ _ _ _ e => e
end ST
instance : Inhabited ST := ⟨.mk 0 0 ByteArray.empty [] [] []⟩
/-- A function: its name, its parameters, its body. -/
structure FT where
  name : ByteArray
  params : List ByteArray
  body : List ST
instance : Inhabited FT := ⟨⟨ByteArray.empty, [], []⟩⟩
/-- A program. -/
structure PT where
  funcs : List FT
  main : List ST

/-- Where a slice begins, as far as it has anything. -/
def At (a : Option Addr) (n : Nat) (b off : Nat) : Prop := 0 < n → a = some ⟨b, off, none⟩
/-- A slice of expressions in memory. -/
inductive ESl (w : World) : Value → List ET → Prop
  | mk (a : Option Addr) (b off cap : Nat) (l : List ET) (f : Nat → Value) : At a l.length b off → l.length ≤ cap → cap ≤ maxLen →
      (∀ i, i < l.length → w.cell? ⟨b, off + i * 4, .none⟩ = .some (.int .i64 (l.getD i default).op) ∧ w.cell? ⟨b, off + i * 4 + 1, .none⟩ = .some (.int .i64 (l.getD i default).num) ∧ w.cell? ⟨b, off + i * 4 + 2, .none⟩ = .some (.string (l.getD i default).name) ∧ w.cell? ⟨b, off + i * 4 + 3, .none⟩ = .some (f i)) →
      (∀ i, i < l.length → ESl w (f i) (l.getD i default).parts) → ESl w (.slice a l.length cap) l
theorem ESl.stay {w w' : World} (hb : Below w.heap.size w w') {v : Value} {l : List ET} (h : ESl w v l) : ESl w' v l := by
  induction h with
  | mk a b off cap l f ha hc hm hcell _ ih =>
    exact .mk a b off cap l f ha hc hm (fun i hi => by
      have hlt : b < w.heap.size := lt_of_cell (hcell i hi).1
      exact ⟨(hb.cell hlt).trans (hcell i hi).1, (hb.cell hlt).trans (hcell i hi).2.1, (hb.cell hlt).trans (hcell i hi).2.2.1, (hb.cell hlt).trans (hcell i hi).2.2.2⟩) ih
/-- A slice of statements in memory. -/
inductive SSl (w : World) : Value → List ST → Prop
  | mk (a : Option Addr) (b off cap : Nat) (l : List ST) (f g h : Nat → Value) : At a l.length b off → l.length ≤ cap → cap ≤ maxLen →
      (∀ i, i < l.length → w.cell? ⟨b, off + i * 6, .none⟩ = .some (.int .i64 (l.getD i default).op) ∧ w.cell? ⟨b, off + i * 6 + 1, .none⟩ = .some (.string (l.getD i default).name) ∧ w.cell? ⟨b, off + i * 6 + 2, .none⟩ = .some (.int .i64 (l.getD i default).num) ∧ w.cell? ⟨b, off + i * 6 + 3, .none⟩ = .some (f i) ∧ w.cell? ⟨b, off + i * 6 + 4, .none⟩ = .some (g i) ∧ w.cell? ⟨b, off + i * 6 + 5, .none⟩ = .some (h i)) →
      (∀ i, i < l.length → ESl w (f i) (l.getD i default).parts) → (∀ i, i < l.length → SSl w (g i) (l.getD i default).body) → (∀ i, i < l.length → SSl w (h i) (l.getD i default).els) → SSl w (.slice a l.length cap) l
theorem SSl.stay {w w' : World} (hb : Below w.heap.size w w') {v : Value} {l : List ST} (h : SSl w v l) : SSl w' v l := by
  induction h with
  | mk a b off cap l f g h ha hc hm hcell he _ _ ih1 ih2 =>
    exact .mk a b off cap l f g h ha hc hm (fun i hi => by
      have hlt : b < w.heap.size := lt_of_cell (hcell i hi).1
      exact ⟨(hb.cell hlt).trans (hcell i hi).1, (hb.cell hlt).trans (hcell i hi).2.1, (hb.cell hlt).trans (hcell i hi).2.2.1, (hb.cell hlt).trans (hcell i hi).2.2.2.1, (hb.cell hlt).trans (hcell i hi).2.2.2.2.1, (hb.cell hlt).trans (hcell i hi).2.2.2.2.2⟩) (fun i hi => (he i hi).stay hb) ih1 ih2
/-- A slice of strings in memory. -/
inductive TSl (w : World) : Value → List ByteArray → Prop
  | mk (a : Option Addr) (b off cap : Nat) (l : List ByteArray) : At a l.length b off → l.length ≤ cap → cap ≤ maxLen → (∀ i, i < l.length → w.cell? ⟨b, off + i, .none⟩ = .some (.string (l.getD i ByteArray.empty))) → TSl w (.slice a l.length cap) l
theorem TSl.stay {w w' : World} (hb : Below w.heap.size w w') {v : Value} {l : List ByteArray} (h : TSl w v l) : TSl w' v l := by
  cases h with
  | mk a b off cap l ha hc hm hcell => exact .mk a b off cap l ha hc hm (fun i hi => (hb.cell (lt_of_cell (hcell i hi))).trans (hcell i hi))
/-- A slice of functions in memory. -/
inductive FSl (w : World) : Value → List FT → Prop
  | mk (a : Option Addr) (b off cap : Nat) (l : List FT) (f g : Nat → Value) : At a l.length b off → l.length ≤ cap → cap ≤ maxLen →
      (∀ i, i < l.length → w.cell? ⟨b, off + i * 3, .none⟩ = .some (.string (l.getD i default).name) ∧ w.cell? ⟨b, off + i * 3 + 1, .none⟩ = .some (f i) ∧ w.cell? ⟨b, off + i * 3 + 2, .none⟩ = .some (g i)) →
      (∀ i, i < l.length → TSl w (f i) (l.getD i default).params) → (∀ i, i < l.length → SSl w (g i) (l.getD i default).body) → FSl w (.slice a l.length cap) l
theorem FSl.stay {w w' : World} (hb : Below w.heap.size w w') {v : Value} {l : List FT} (h : FSl w v l) : FSl w' v l := by
  cases h with
  | mk a b off cap l f g ha hc hm hcell h1 h2 =>
    exact .mk a b off cap l f g ha hc hm (fun i hi => by
      have hlt : b < w.heap.size := lt_of_cell (hcell i hi).1
      exact ⟨(hb.cell hlt).trans (hcell i hi).1, (hb.cell hlt).trans (hcell i hi).2.1, (hb.cell hlt).trans (hcell i hi).2.2⟩) (fun i hi => (h1 i hi).stay hb) (fun i hi => (h2 i hi).stay hb)
/-- A program in memory. -/
def PR (w : World) (fv mv : Value) (p : PT) : Prop := FSl w fv p.funcs ∧ SSl w mv p.main
theorem PR.stay {w w' : World} (hb : Below w.heap.size w w') {fv mv : Value} {p : PT} (h : PR w fv mv p) : PR w' fv mv p := ⟨h.1.stay hb, h.2.stay hb⟩
end Go.Proofs.YthjjcmmonjajhaaGreatDoor
namespace Go.Proofs.YthjjcmmonjajhaaGreatDoor
open Go.RowKit Go.Sort
set_option linter.unusedVariables false

def manyB (parts k : Int) : Bool := (k == parts) || (decide (parts < 0) && decide (k ≤ -parts))
def fitsB (nm : Bool) (least most parts : Int) (s : ByteArray) (n k : Int) : Bool :=
  manyB parts k && (decide (least ≤ n) && (decide (n ≤ most) && (if nm then nameB s else s.toList.isEmpty)))
theorem many_cases (parts k : Int) : ((k == parts) = true ∧ manyB parts k = true) ∨ ((k == parts) = false ∧ decide (parts < 0) = false ∧ manyB parts k = false) ∨ ((k == parts) = false ∧ decide (parts < 0) = true ∧ decide (k ≤ -parts) = true ∧ manyB parts k = true) ∨ ((k == parts) = false ∧ decide (parts < 0) = true ∧ decide (k ≤ -parts) = false ∧ manyB parts k = false) := by
  unfold manyB
  cases (k == parts) <;> cases decide (parts < 0) <;> cases decide (k ≤ -parts) <;> simp
theorem fits_cases (nm : Bool) (least most parts : Int) (s : ByteArray) (n k : Int) (m : Bool) (hm : manyB parts k = m) :
    (m = false ∧ fitsB nm least most parts s n k = false) ∨ (m = true ∧ ((decide (least ≤ n) = false ∧ fitsB nm least most parts s n k = false) ∨ (decide (least ≤ n) = true ∧ decide (n ≤ most) = false ∧ fitsB nm least most parts s n k = false) ∨
      (decide (least ≤ n) = true ∧ decide (n ≤ most) = true ∧ ((nm = true ∧ fitsB nm least most parts s n k = nameB s) ∨ (nm = false ∧ fitsB nm least most parts s n k = s.toList.isEmpty))))) := by
  unfold fitsB
  rw [hm]
  cases m <;> cases decide (least ≤ n) <;> cases decide (n ≤ most) <;> cases nm <;> simp

set_option maxHeartbeats 4000000 in
set_option maxRecDepth 1000000 in
theorem fits_r (nm bd ot : Bool) (least most parts : Int) (s : ByteArray) (n k : Int) (hp0 : -100 ≤ parts) (hp1 : parts ≤ 100) (b : Bool) (hb : fitsB nm least most parts s n k = b) (w : World) :
    Calls Tryz.prog 82 #[.agg #[.bool nm, .int .i64 least, .int .i64 most, .int .i64 parts, .bool bd, .bool ot], .string s, .int .i64 n, .int .i64 k] w fun e w' => e = .returned (.bool b) ∧ Below w.heap.size w w' := by
  have HB := hb_start w
  obtain ⟨m, hm⟩ : ∃ m, manyB parts k = m := ⟨_, rfl⟩
  obtain ⟨q, hq⟩ : ∃ q, nameB s = q := ⟨_, rfl⟩
  obtain ⟨r, hr⟩ : ∃ r, s.toList.isEmpty = r := ⟨_, rfl⟩
  have hf := fits_cases nm least most parts s n k m hm
  rw [hb, hq, hr] at hf
  have HQ := Lib.hid hq
  clear hb hq
  have hc := many_cases parts k
  rw [hm] at hc
  clear hm
  rcases hc with ⟨e1, rfl⟩ | ⟨e1, e2, rfl⟩ | ⟨e1, e2, e3, rfl⟩ | ⟨e1, e2, e3, rfl⟩
  all_goals
    rcases hf with ⟨hmf, rfl⟩ | ⟨hmf, ⟨d1, rfl⟩ | ⟨d1, d2, rfl⟩ | ⟨d1, d2, ⟨rfl, rfl⟩ | ⟨rfl, rfl⟩⟩⟩
    all_goals try cases b
    all_goals first
      | (exfalso; cases hmf; done)
      | (clear hmf
         go_enter Tryz.func82, Tryz.ntmps82
         go_wp2_with (go_at_call 34; refine (name_r s _ HQ.out _).mono ?_; rintro e w' ⟨rfl, hb⟩; have c0 := (hb.cell (p := ⟨w.heap.size, 0, none⟩) (lt_of_cell (o := 0) (v := .bool true) (by simp))).trans (show _ = some (Value.bool true) by simp); have HB2 : Hid (Below w.heap.size w w') := hb_step (by repeat (first | exact HB | refine hb_drew ?_ | refine hb_alloc ?_ _)) hb; clear HB; have HB := HB2; clear HB2; clear hb)
         go_ret
         first | exact ⟨rfl, HB.out⟩ | exact ⟨rfl, (hb_alloc HB _).out⟩)
end Go.Proofs.YthjjcmmonjajhaaGreatDoor
namespace Go.Proofs.YthjjcmmonjajhaaGreatDoor
open Go.RowKit Go.Sort
set_option linter.unusedVariables false

abbrev Shp := Bool × Int × Int × Int × Bool × Bool
def shapeCells (r : Shp) : List Value := [.bool r.1, .int .i64 r.2.1, .int .i64 r.2.2.1, .int .i64 r.2.2.2.1, .bool r.2.2.2.2.1, .bool r.2.2.2.2.2]

def exprRows : List Shp := [(false, 0, 0, 0, false, false), (false, 0, 9223372036854775807, 0, false, false), (true, 0, 0, 0, false, false), (false, 0, 0, 0, false, false), (true, 0, 0, 1, false, false), (true, 0, 0, -8, false, false), (false, 0, 0, 1, false, false), (false, 0, 0, 1, false, false), (false, 0, 0, 2, false, false), (false, 0, 0, 2, false, false), (false, 0, 0, 2, false, false), (false, 0, 0, 2, false, false), (false, 0, 0, 2, false, false), (false, 0, 0, 2, false, false), (false, 0, 0, 2, false, false), (false, 0, 0, 2, false, false), (false, 0, 0, 2, false, false)]
def exprAll : List Value := exprRows.flatMap shapeCells
def exprRow (i : Nat) : Shp := exprRows.getD i (false, 0, 0, 0, false, false)
def Tabexpr (w : World) : Prop := w.var? Tryz.prog "evenhand/tree.exprs" = some exprAll.toArray
theorem gexpr : Tryz.prog.globalNamed "evenhand/tree.exprs" = some 3 := by kernel_rfl
theorem expr_cells {w : World} (h : Tabexpr w) (i : Nat) (hi : i < 17) :
    w.cell? ⟨3, i * 6, none⟩ = some (.bool (exprRow i).1) ∧ w.cell? ⟨3, i * 6 + 1, none⟩ = some (.int .i64 (exprRow i).2.1) ∧ w.cell? ⟨3, i * 6 + 2, none⟩ = some (.int .i64 (exprRow i).2.2.1) ∧
    w.cell? ⟨3, i * 6 + 3, none⟩ = some (.int .i64 (exprRow i).2.2.2.1) ∧ w.cell? ⟨3, i * 6 + 4, none⟩ = some (.bool (exprRow i).2.2.2.2.1) ∧ w.cell? ⟨3, i * 6 + 5, none⟩ = some (.bool (exprRow i).2.2.2.2.2) := by
  have c : ∀ j, w.cell? ⟨3, j, none⟩ = exprAll[j]? := fun j => by
    have := World.var?_cell gexpr h j
    simpa using this
  rw [c, c, c, c, c, c]
  clear c
  have : i = 0 ∨ i = 1 ∨ i = 2 ∨ i = 3 ∨ i = 4 ∨ i = 5 ∨ i = 6 ∨ i = 7 ∨ i = 8 ∨ i = 9 ∨ i = 10 ∨ i = 11 ∨ i = 12 ∨ i = 13 ∨ i = 14 ∨ i = 15 ∨ i = 16 := by omega
  rcases this with rfl | rfl | rfl | rfl | rfl | rfl | rfl | rfl | rfl | rfl | rfl | rfl | rfl | rfl | rfl | rfl | rfl <;> exact ⟨rfl, rfl, rfl, rfl, rfl, rfl⟩
theorem Tabexpr.below {w w' : World} (h : Tabexpr w) (hb : Below w.heap.size w w') : Tabexpr w' := Joins.var_stays gexpr h hb (Nat.le_refl _)

def stmtRows : List Shp := [(false, 0, 0, 0, false, false), (true, 0, 0, 1, false, false), (true, 0, 0, 2, false, false), (true, 1, 4096, 0, false, false), (true, 0, 0, 0, false, false), (false, 0, 0, 1, false, false), (false, 0, 0, 1, false, false), (false, 0, 0, 1, true, true), (false, 0, 0, 1, true, false), (false, 0, 0, 1, false, false)]
def stmtAll : List Value := stmtRows.flatMap shapeCells
def stmtRow (i : Nat) : Shp := stmtRows.getD i (false, 0, 0, 0, false, false)
def Tabstmt (w : World) : Prop := w.var? Tryz.prog "evenhand/tree.stmts" = some stmtAll.toArray
theorem gstmt : Tryz.prog.globalNamed "evenhand/tree.stmts" = some 2 := by kernel_rfl
theorem stmt_cells {w : World} (h : Tabstmt w) (i : Nat) (hi : i < 10) :
    w.cell? ⟨2, i * 6, none⟩ = some (.bool (stmtRow i).1) ∧ w.cell? ⟨2, i * 6 + 1, none⟩ = some (.int .i64 (stmtRow i).2.1) ∧ w.cell? ⟨2, i * 6 + 2, none⟩ = some (.int .i64 (stmtRow i).2.2.1) ∧
    w.cell? ⟨2, i * 6 + 3, none⟩ = some (.int .i64 (stmtRow i).2.2.2.1) ∧ w.cell? ⟨2, i * 6 + 4, none⟩ = some (.bool (stmtRow i).2.2.2.2.1) ∧ w.cell? ⟨2, i * 6 + 5, none⟩ = some (.bool (stmtRow i).2.2.2.2.2) := by
  have c : ∀ j, w.cell? ⟨2, j, none⟩ = stmtAll[j]? := fun j => by
    have := World.var?_cell gstmt h j
    simpa using this
  rw [c, c, c, c, c, c]
  clear c
  have : i = 0 ∨ i = 1 ∨ i = 2 ∨ i = 3 ∨ i = 4 ∨ i = 5 ∨ i = 6 ∨ i = 7 ∨ i = 8 ∨ i = 9 := by omega
  rcases this with rfl | rfl | rfl | rfl | rfl | rfl | rfl | rfl | rfl | rfl <;> exact ⟨rfl, rfl, rfl, rfl, rfl, rfl⟩
theorem Tabstmt.below {w w' : World} (h : Tabstmt w) (hb : Below w.heap.size w w') : Tabstmt w' := Joins.var_stays gstmt h hb (Nat.le_refl _)
def Tab (w : World) : Prop := Tabexpr w ∧ Tabstmt w
theorem Tab.below {w w' : World} (h : Tab w) (hb : Below w.heap.size w w') : Tab w' := ⟨h.1.below hb, h.2.below hb⟩
theorem Tab.at {w0 w : World} (ht : Hid (Tab w0)) (h : Hid (Below w0.heap.size w0 w)) : Tab w := ht.out.below h.out
end Go.Proofs.YthjjcmmonjajhaaGreatDoor
namespace Go.Proofs.YthjjcmmonjajhaaGreatDoor
open Go.RowKit Go.Sort
set_option linter.unusedVariables false

def exprFits (i : Nat) (s : ByteArray) (n k : Int) : Bool := fitsB (exprRow i).1 (exprRow i).2.1 (exprRow i).2.2.1 (exprRow i).2.2.2.1 s n k
def stmtFits (i : Nat) (s : ByteArray) (n k : Int) : Bool := fitsB (stmtRow i).1 (stmtRow i).2.1 (stmtRow i).2.2.1 (stmtRow i).2.2.2.1 s n k
/-- Is an expression right but for its parts? -/
def exprB (o n : Int) (s : ByteArray) (k : Nat) : Bool := decide (1 ≤ o ∧ o < 17) && exprFits o.toNat s n k
def stmtB (o n : Int) (s : ByteArray) (k body els : Nat) : Bool :=
  decide (1 ≤ o ∧ o < 10) && (stmtFits o.toNat s n k && (((stmtRow o.toNat).2.2.2.2.1 || decide (body = 0)) && ((stmtRow o.toNat).2.2.2.2.2 || decide (els = 0))))
mutual
def ET.nodes : ET → Int → List (Bool × Int)
  | .mk o n s l, d => (exprB o n s l.length, d) :: ET.nodesL l (wrap64 (d + 1))
def ET.nodesL : List ET → Int → List (Bool × Int)
  | [], _ => []
  | e :: r, d => ET.nodes e d ++ ET.nodesL r d
end
mutual
def ST.nodes : ST → Int → List (Bool × Int)
  | .mk o n s l b e, d => (stmtB o n s l.length b.length e.length, d) :: (ET.nodesL l (wrap64 (d + 1)) ++ (ST.nodesL b (wrap64 (d + 1)) ++ ST.nodesL e (wrap64 (d + 1))))
def ST.nodesL : List ST → Int → List (Bool × Int)
  | [], _ => []
  | e :: r, d => ST.nodes e d ++ ST.nodesL r d
end
theorem ET.nodesL_append (l r : List ET) (d : Int) : ET.nodesL (l ++ r) d = ET.nodesL l d ++ ET.nodesL r d := by
  induction l with
  | nil => simp [ET.nodesL]
  | cons x l ih => simp [ET.nodesL, ih]
theorem ST.nodesL_append (l r : List ST) (d : Int) : ST.nodesL (l ++ r) d = ST.nodesL l d ++ ST.nodesL r d := by
  induction l with
  | nil => simp [ST.nodesL]
  | cons x l ih => simp [ST.nodesL, ih]
theorem take_next {α : Type} (l : List α) (z : α) (k : Nat) (h : k < l.length) : l.take (k + 1) = l.take k ++ [l.getD k z] := by
  rw [List.take_succ_eq_append_getElem h, List.getD_eq_getElem?_getD, List.getElem?_eq_getElem h]; rfl
theorem ET.nodesL_take (l : List ET) (d : Int) (k : Nat) (h : k < l.length) : ET.nodesL (l.take (k + 1)) d = ET.nodesL (l.take k) d ++ ET.nodes (l.getD k default) d := by
  rw [take_next l default k h, ET.nodesL_append]; simp [ET.nodesL]
theorem ST.nodesL_take (l : List ST) (d : Int) (k : Nat) (h : k < l.length) : ST.nodesL (l.take (k + 1)) d = ST.nodesL (l.take k) d ++ ST.nodes (l.getD k default) d := by
  rw [take_next l default k h, ST.nodesL_append]; simp [ST.nodesL]
theorem ET.nodes_eq (e : ET) (d : Int) : e.nodes d = (exprB e.op e.num e.name e.parts.length, d) :: ET.nodesL e.parts (wrap64 (d + 1)) := by cases e; rfl
theorem ST.nodes_eq (e : ST) (d : Int) : e.nodes d = (stmtB e.op e.num e.name e.parts.length e.body.length e.els.length, d) :: (ET.nodesL e.parts (wrap64 (d + 1)) ++ (ST.nodesL e.body (wrap64 (d + 1)) ++ ST.nodesL e.els (wrap64 (d + 1)))) := by cases e; rfl
def FT.nodesL (l : List FT) : List (Bool × Int) := l.flatMap fun f => ST.nodesL f.body 1
theorem FT.nodesL_take (l : List FT) (k : Nat) (h : k < l.length) : FT.nodesL (l.take (k + 1)) = FT.nodesL (l.take k) ++ ST.nodesL (l.getD k default).body 1 := by
  rw [take_next l default k h]; simp [FT.nodesL]
def PT.nodes (p : PT) : List (Bool × Int) := FT.nodesL p.funcs ++ ST.nodesL p.main 1
def depthF (l : List (Bool × Int)) : Int := l.foldl (fun n x => max n x.2) 0
def sizeF (l : List (Bool × Int)) : Int := l.foldl (fun n _ => wrap64 (n + 1)) 0
theorem depthF_snoc (l : List (Bool × Int)) (x : Bool × Int) : depthF (l ++ [x]) = max (depthF l) x.2 := by simp [depthF]
theorem sizeF_snoc (l : List (Bool × Int)) (x : Bool × Int) : sizeF (l ++ [x]) = wrap64 (sizeF l + 1) := by simp [sizeF]
def PT.depth (p : PT) : Int := depthF p.nodes
def PT.size (p : PT) : Int := sizeF p.nodes
/-- Is a function's head right? -/
def FT.headB (f : FT) : Bool := nameB f.name && (decide (f.params.length ≤ 8) && !f.params.any (fun s => !nameB s))
def PT.headsB (p : PT) : Bool := decide (p.funcs.length ≤ 32) && !p.funcs.any (fun f => !f.headB)
/-- What Right tells. -/
def PT.right (p : PT) : Int := if p.headsB && p.nodes.all (·.1) then (if 64 < p.depth then 3 else 0) else 1
mutual
def ET.same : ET → ET → Bool
  | .mk o n s l, .mk o' n' s' l' => (o == o') && ((n == n') && ((s.toList == s'.toList) && ET.sameL l l'))
def ET.sameL : List ET → List ET → Bool
  | [], [] => true
  | a :: l, b :: r => ET.same a b && ET.sameL l r
  | [], _ :: _ => false
  | _ :: _, [] => false
end
mutual
def ST.same : ST → ST → Bool
  | .mk o n s l b e, .mk o' n' s' l' b' e' => (o == o') && ((s.toList == s'.toList) && ((n == n') && (ET.sameL l l' && (ST.sameL b b' && ST.sameL e e'))))
def ST.sameL : List ST → List ST → Bool
  | [], [] => true
  | a :: l, b :: r => ST.same a b && ST.sameL l r
  | [], _ :: _ => false
  | _ :: _, [] => false
end
end Go.Proofs.YthjjcmmonjajhaaGreatDoor
