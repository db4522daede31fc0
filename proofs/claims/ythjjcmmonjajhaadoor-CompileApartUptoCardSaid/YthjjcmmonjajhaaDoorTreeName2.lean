/- tree.Name computes nameB: the searches, and Name. -/
import Derived.Test.YthjjcmmonjajhaaDoorTreeName
namespace Go.Proofs.YthjjcmmonjajhaaDoor
open Go.RowKit Go.Sort
set_option linter.unusedVariables false

set_option maxHeartbeats 1000000 in
set_option maxRecDepth 1000000 in
theorem contains_r (b off cap : Nat) (l : List ByteArray) (hl : l.length ≤ 1000000000) (hc : l.length ≤ cap) (s : ByteArray) (q : Bool) (hq : l.any (fun x => s.toList == x.toList) = q) (w : World) (hi : StrIn w b off l) :
    Calls Tryd.prog 55 #[.slice (some ⟨b, off, none⟩) l.length cap, .string s] w fun e w' => e = .returned (.bool q) ∧ w' = w := by
  have HI := Lib.hid hi
  have HQ := Lib.hid hq
  clear hi hq
  cases q
  all_goals
    go_enter Tryd.func55, Tryd.ntmps55
    go_wp2_with (go_at_call 47; refine (index_r b off cap l hl hc s _ HI.out).mono ?_; rintro e w' ⟨⟨r, rfl, hr, hr0, hr1⟩, rfl⟩; have hr2 := hr.trans HQ.out; clear hr)
    go_ret
    exact ⟨rfl, rfl⟩

theorem kw_in (w : World) : StrIn (w.alloc (.cells kwCells 9)) w.heap.size 0 [⟨#[102, 117, 110, 99]⟩, ⟨#[97, 114, 114, 97, 121]⟩, ⟨#[105, 110, 112, 117, 116]⟩, ⟨#[112, 114, 105, 110, 116]⟩, ⟨#[107, 101, 101, 112]⟩, ⟨#[105, 102]⟩, ⟨#[101, 108, 115, 101]⟩, ⟨#[119, 104, 105, 108, 101]⟩, ⟨#[114, 101, 116, 117, 114, 110]⟩, ⟨#[99, 108, 111, 99, 107]⟩] := by
  intro i hi
  have : i < 10 := hi
  have hc : (w.alloc (.cells kwCells 9)).cell? ⟨w.heap.size, 0 + i, none⟩ = kwCells[0 + i]? := by simp
  rw [hc]
  have : i = 0 ∨ i = 1 ∨ i = 2 ∨ i = 3 ∨ i = 4 ∨ i = 5 ∨ i = 6 ∨ i = 7 ∨ i = 8 ∨ i = 9 := by omega
  rcases this with rfl | rfl | rfl | rfl | rfl | rfl | rfl | rfl | rfl | rfl <;> rfl

def byteAt (s : ByteArray) (i : Nat) : Int := if h : i < s.size then ((s[i]'h).toNat : Int) else 0
theorem byteAt_range (s : ByteArray) (i : Nat) : 0 ≤ byteAt s i ∧ byteAt s i ≤ 255 := by
  unfold byteAt; split
  · rename_i h; have := (s[i]'h).toNat_lt; omega
  · omega
def BytesIn (w : World) (b off : Nat) (s : ByteArray) : Prop := ∀ i, i < s.size → w.cell? ⟨b, off + i, none⟩ = some (.int .u8 (byteAt s i))
/-- Some byte from place k on, of the first n, is none that may stand in a name. -/
def anyBad (s : ByteArray) (k : Nat) : Bool := (List.range k).any fun i => !innerB (byteAt s i)

theorem anyBad_next (s : ByteArray) (k : Nat) : anyBad s (k + 1) = (anyBad s k || !innerB (byteAt s k)) := by
  unfold anyBad; rw [List.range_succ, List.any_append]; simp
theorem anyBad_mem (s : ByteArray) (n k : Nat) (hk : k < n) (h : (!innerB (byteAt s k)) = true) : anyBad s n = true := by
  unfold anyBad; exact List.any_eq_true.2 ⟨k, List.mem_range.2 hk, h⟩

set_option maxHeartbeats 2000000 in
set_option maxRecDepth 1000000 in
theorem indexf_r (b off cap : Nat) (s : ByteArray) (hl : s.size ≤ 1000000000) (hc : s.size ≤ cap) (w : World) (hi : BytesIn w b off s) :
    Calls Tryd.prog 68 #[.slice (some ⟨b, off, none⟩) s.size cap, .func (.func 58) #[] #[]] w fun e w' => (∃ r : Int, e = .returned (.int .i64 r) ∧ decide (0 ≤ r) = anyBad s s.size ∧ -1 ≤ r ∧ r ≤ 1000000000) ∧ w' = w := by
  have HI := Lib.hid hi
  clear hi
  go_enter Tryd.func68, Tryd.ntmps68
  go_wp2
  go_loopw [8] (fun i wr => ∃ k : Nat, i = .int .i64 k ∧ k ≤ s.size ∧ wr = w ∧ Hid (anyBad s k = false)) (fun i _ => s.size - (intOf i).toNat)
  case atStart => exact ⟨0, rfl, by omega, rfl, rfl⟩
  case round =>
    obtain ⟨k, rfl, hk, rfl, HA⟩ := hrel
    by_cases hlt : k < s.size
    · have hcell := HI.out k hlt
      obtain ⟨x0, x1⟩ := byteAt_range s k
      have hnx := anyBad_next s k
      have hmm := anyBad_mem s s.size k hlt
      generalize byteAt s k = x at hcell x0 x1 hnx hmm
      obtain ⟨q, hq⟩ : ∃ q, (!innerB x) = q := ⟨_, rfl⟩
      rw [hq] at hnx hmm
      have HQ := Lib.hid hq
      have HN := Lib.hid hnx
      have HM := Lib.hid hmm
      clear hq hnx hmm
      cases q with
      | true =>
        go_wp2_with (go_at_call 58; refine (name1_r x x0 x1 _ HQ.out _).mono ?_; rintro e w' ⟨rfl, rfl⟩)
        go_ret
        refine ⟨⟨(k : Int), rfl, ?_, by omega, by omega⟩, rfl⟩
        rw [decide_eq_true (by omega)]
        exact (by simpa using HM.out : anyBad s s.size = true).symm
      | false =>
        go_wp2_with (go_at_call 58; refine (name1_r x x0 x1 _ HQ.out _).mono ?_; rintro e w' ⟨rfl, rfl⟩)
        go_roundw
        case rel => exact ⟨k + 1, by go_num, by omega, trivial, by show _ = _; rw [HN.out, HA.out]; rfl⟩
        case measure => simp [intOf]; omega
    · obtain rfl : k = s.size := by omega
      go_wp2
      go_ret
      refine ⟨⟨-1, rfl, ?_, by omega, by omega⟩, rfl⟩
      rw [HA.out]; rfl

set_option maxHeartbeats 1000000 in
set_option maxRecDepth 1000000 in
theorem containsf_r (b off cap : Nat) (s : ByteArray) (hl : s.size ≤ 1000000000) (hc : s.size ≤ cap) (q : Bool) (hq : anyBad s s.size = q) (w : World) (hi : BytesIn w b off s) :
    Calls Tryd.prog 57 #[.slice (some ⟨b, off, none⟩) s.size cap, .func (.func 58) #[] #[]] w fun e w' => e = .returned (.bool q) ∧ w' = w := by
  have HI := Lib.hid hi
  have HQ := Lib.hid hq
  clear hi hq
  cases q
  all_goals
    go_enter Tryd.func57, Tryd.ntmps57
    go_wp2_with (go_at_call 68; refine (indexf_r b off cap s hl hc _ HI.out).mono ?_; rintro e w' ⟨⟨r, rfl, hr, hr0, hr1⟩, rfl⟩; have hr2 := hr.trans HQ.out; clear hr)
    go_ret
    exact ⟨rfl, rfl⟩

theorem byteAt_of (s : ByteArray) (i : Nat) (h : i < s.size) : byteAt s i = ((s[i]'h).toNat : Int) := by simp [byteAt, h]
theorem toList_ne {s : ByteArray} (h : 0 < s.size) : ¬ s.toList = [] := by
  have hl : s.toList.length = s.size := by rw [ByteArray.toList_eq]; cases s; rfl
  intro e; rw [e] at hl; simp at hl; omega
def kwL : List ByteArray := [⟨#[102, 117, 110, 99]⟩, ⟨#[97, 114, 114, 97, 121]⟩, ⟨#[105, 110, 112, 117, 116]⟩, ⟨#[112, 114, 105, 110, 116]⟩, ⟨#[107, 101, 101, 112]⟩, ⟨#[105, 102]⟩, ⟨#[101, 108, 115, 101]⟩, ⟨#[119, 104, 105, 108, 101]⟩, ⟨#[114, 101, 116, 117, 114, 110]⟩, ⟨#[99, 108, 111, 99, 107]⟩]
theorem bytes_in (w : World) (s : ByteArray) : BytesIn (Lib.bytesWorld w 5 s) w.heap.size 0 s := by
  intro i hi
  rw [Nat.zero_add, Lib.bytesWorld_cell w 5 s i hi, byteAt_of s i hi]
  have : s.data.toList.getD i 0 = s[i] := by
    rw [List.getD_eq_getElem?_getD, Array.getElem?_toList, Array.getElem?_eq_getElem (by exact hi)]; rfl
  rw [this]
def kwB (s : ByteArray) : Bool := kwL.any (fun x => s.toList == x.toList)
def nameB (s : ByteArray) : Bool := decide (0 < s.size ∧ s.size ≤ 32) && (letterB (byteAt s 0) && (!kwB s && !anyBad s s.size))

theorem conv_s (s : ByteArray) : ∃ (c : World → Nat) (f : World → World), (∀ W, s.size ≤ c W) ∧ (∀ W, Below W.heap.size W (f W)) ∧ (∀ W : World, BytesIn (f W) W.heap.size 0 s) ∧
    ∀ W : World, (convert 9 64 (.string s)).run Tryd.prog W = .ok (.slice (some ⟨W.heap.size, 0, none⟩) s.size (c W)) (f W) :=
  ⟨fun W => grownCap W s.size 0 5, fun W => Lib.bytesWorld W 5 s, fun W => grownCap_ge W _ _ _, fun W => Joins.below_bytesWorld _ _ _ _ (Nat.le_refl _), fun W => bytes_in W s,
    fun W => Lib.run_convert_string_bytes W 9 64 5 s Tryd.underlying9 Tryd.underlying64 Tryd.underlying5⟩

set_option maxHeartbeats 2000000 in
set_option maxRecDepth 1000000 in
theorem name_in (s : ByteArray) (h1 : 0 < s.size) (h2 : s.size ≤ 32) (hl : letterB (byteAt s 0) = true) (hk : kwB s = false) (q : Bool) (hq : anyBad s s.size = q) (w : World) :
    Calls Tryd.prog 42 #[.string s] w fun e w' => e = .returned (.bool (!q)) ∧ Below w.heap.size w w' := by
  have he : s.toList.isEmpty = false := by simpa using toList_ne h1
  have hd : decide (32 < (s.size : Int)) = false := decide_eq_false (by omega)
  obtain ⟨c, f, hc, hf, hin, hconv⟩ := conv_s s
  have HC := Lib.hid hc
  have HF := Lib.hid hf
  have HIN : Hid (∀ (W : World) (o : Obj), BytesIn (f (W.alloc o)) (W.heap.size + 1) 0 s) := fun W o => by
    have h := hin (W.alloc o)
    have e : (W.alloc o).heap.size = W.heap.size + 1 := Array.size_push ..
    rw [e] at h; exact h
  clear hc hf hin
  obtain ⟨x0, x1⟩ := byteAt_range s 0
  rw [byteAt_of s 0 h1] at hl x0 x1
  have HL := Lib.hid hl
  have HK := Lib.hid hk
  have HN := Lib.hid hq
  clear hl hk hq
  cases q
  all_goals
    go_enter Tryd.func42, Tryd.ntmps42
    go_wp2_with (first | (go_at_call 54; refine (letter_r _ x0 x1 _ HL.out _).mono ?_; rintro e w' ⟨rfl, rfl⟩) | (go_at_call 56; refine (keywords_r _).mono ?_; rintro e w' ⟨rfl, rfl⟩) | (go_at_call 55; refine (contains_r _ 0 10 kwL (by decide) (by decide) s false HK.out _ (kw_in _)).mono ?_; rintro e w' ⟨rfl, rfl⟩) | (go_at_call 57; refine (containsf_r _ 0 _ s (by omega) (HG.out _) _ HN.out _ (bytes_in _ _)).mono ?_; rintro e w' ⟨rfl, rfl⟩))
    go_at_call 57
    refine (containsf_r _ 0 _ s (by omega) (HC.out _) _ HN.out _ (HIN.out _ _)).mono ?_
    rintro e w2 ⟨rfl, rfl⟩
    go_wp2
    go_ret
    exact ⟨rfl, Below.trans ((Below.refl _ _).alloc (Nat.le_refl _) (.cells kwCells 9)) ((HF.out _).mono ((Below.alloc (Below.refl _ _) (Nat.le_refl _) (.cells kwCells 9)).size))⟩

set_option maxHeartbeats 2000000 in
set_option maxRecDepth 1000000 in
theorem name_no (s : ByteArray) (h : s.size = 0 ∨ 32 < s.size) (w : World) :
    Calls Tryd.prog 42 #[.string s] w fun e w' => e = .returned (.bool false) ∧ Below w.heap.size w w' := by
  rcases h with h | h
  · obtain rfl : s = ⟨#[]⟩ := by cases s with | mk d => have : d = #[] := Array.eq_empty_of_size_eq_zero h; subst this; rfl
    go_enter Tryd.func42, Tryd.ntmps42
    go_wp2
    go_ret
    exact ⟨rfl, Below.refl _ _⟩
  · have he : s.toList.isEmpty = false := by simpa using toList_ne (by omega : 0 < s.size)
    have hd : decide (32 < (s.size : Int)) = true := decide_eq_true (by omega)
    go_enter Tryd.func42, Tryd.ntmps42
    go_wp2
    go_ret
    exact ⟨rfl, Below.refl _ _⟩
set_option maxHeartbeats 2000000 in
set_option maxRecDepth 1000000 in
theorem name_not (s : ByteArray) (h1 : 0 < s.size) (h2 : s.size ≤ 32) (h : letterB (byteAt s 0) = false ∨ (letterB (byteAt s 0) = true ∧ kwB s = true)) (w : World) :
    Calls Tryd.prog 42 #[.string s] w fun e w' => e = .returned (.bool false) ∧ Below w.heap.size w w' := by
  have he : s.toList.isEmpty = false := by simpa using toList_ne h1
  have hd : decide (32 < (s.size : Int)) = false := decide_eq_false (by omega)
  obtain ⟨x0, x1⟩ := byteAt_range s 0
  rw [byteAt_of s 0 h1] at h x0 x1
  rcases h with h | ⟨h, hk⟩
  · have HL := Lib.hid h
    have HK : Hid True := trivial
    clear h
    go_enter Tryd.func42, Tryd.ntmps42
    go_wp2_with (go_at_call 54; refine (letter_r _ x0 x1 _ HL.out _).mono ?_; rintro e w' ⟨rfl, rfl⟩)
    go_ret
    exact ⟨rfl, Below.refl _ _⟩
  · have HL := Lib.hid h
    have HK := Lib.hid hk
    clear h hk
    go_enter Tryd.func42, Tryd.ntmps42
    go_wp2_with (first | (go_at_call 54; refine (letter_r _ x0 x1 _ HL.out _).mono ?_; rintro e w' ⟨rfl, rfl⟩) | (go_at_call 56; refine (keywords_r _).mono ?_; rintro e w' ⟨rfl, rfl⟩) | (go_at_call 55; refine (contains_r _ 0 10 kwL (by decide) (by decide) s true HK.out _ (kw_in _)).mono ?_; rintro e w' ⟨rfl, rfl⟩))
    go_ret
    exact ⟨rfl, (Below.refl _ _).alloc (Nat.le_refl _) _⟩
/-- Name, whatever the text. -/
theorem name_r (s : ByteArray) (b : Bool) (hb : nameB s = b) (w : World) :
    Calls Tryd.prog 42 #[.string s] w fun e w' => e = .returned (.bool b) ∧ Below w.heap.size w w' := by
  subst hb
  by_cases h : 0 < s.size ∧ s.size ≤ 32
  · by_cases hl : letterB (byteAt s 0) = true
    · by_cases hk : kwB s = true
      · have e : nameB s = false := by unfold nameB; rw [hk]; simp
        rw [e]; exact name_not s h.1 h.2 (.inr ⟨hl, hk⟩) w
      · have hk' : kwB s = false := by simpa using hk
        have e : nameB s = !anyBad s s.size := by unfold nameB; rw [hk', hl, decide_eq_true h]; simp
        rw [e]; exact name_in s h.1 h.2 hl hk' _ rfl w
    · have hl' : letterB (byteAt s 0) = false := by simpa using hl
      have e : nameB s = false := by unfold nameB; rw [hl']; simp
      rw [e]; exact name_not s h.1 h.2 (.inl hl') w
  · have e : nameB s = false := by unfold nameB; rw [decide_eq_false h]; rfl
    rw [e]; exact name_no s (by omega) w
end Go.Proofs.YthjjcmmonjajhaaDoor
