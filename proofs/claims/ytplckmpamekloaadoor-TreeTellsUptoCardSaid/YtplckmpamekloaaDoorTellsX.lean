/- The document's Lex, as far as Name asks. -/
import Derived.Test.YtplckmpamekloaaDoorTellsN
import Derived.Test.YtplckmpamekloaaDoorTellsKit
namespace Go.Proofs.YtplckmpamekloaaDoor
open Go.RowKit Go.Sort
set_option linter.unusedVariables false

def shapeB (s : ByteArray) : Bool := decide (0 < s.size ∧ s.size ≤ 32) && (letterB (byteAt s 0) && !anyBad s s.size)
theorem infoTok : (Tryd.prog.info? 72).map (fun i => (i.zero, i.size, i.bytes)) = some (some (.agg #[.int .i64 0, .string ⟨#[]⟩, .int .i64 0]), 3, 32) := by kernel_rfl
def LexInv (s : ByteArray) (k m : Nat) (xs : List Value) : Prop :=
  (m = 0 ∧ xs = [] ∧ SkipTo s 0 k) ∨
  (0 < m ∧ ∃ (kind : Int) (text : ByteArray) (at_ : Value) (rest : List Value), xs = .int .i64 kind :: .string text :: at_ :: rest ∧ ((shapeB s = true ∧ m = 1 ∧ k = s.size ∧ kind = 1 ∧ text = s) ∨ (shapeB s = false ∧ (kind ≠ 1 ∨ text.size < s.size))))
theorem shape_letter {s : ByteArray} (h : letterB (byteAt s 0) = false) : shapeB s = false := by unfold shapeB; rw [h]; simp
theorem shape_long {s : ByteArray} (h : 32 < s.size) : shapeB s = false := by
  unfold shapeB; rw [decide_eq_false (by omega)]; rfl
theorem shape_bad {s : ByteArray} {m : Nat} (hm : m < s.size) (h : innerB (byteAt s m) = false) : shapeB s = false := by
  unfold shapeB; rw [anyBad_mem s s.size m hm (by rw [h]; rfl)]; simp
theorem shape_good {s : ByteArray} (h1 : 0 < s.size) (h2 : s.size ≤ 32) (h3 : letterB (byteAt s 0) = true) (h4 : ∀ i, 0 < i → i < s.size → innerB (byteAt s i) = true) : shapeB s = true := by
  have hb : anyBad s s.size = false := by
    unfold anyBad
    rw [← Bool.not_eq_true, List.any_eq_true]
    rintro ⟨i, hi, h⟩
    have hi' := List.mem_range.1 hi
    rcases Nat.eq_zero_or_pos i with rfl | h0
    · unfold innerB at h; rw [h3] at h; simp at h
    · rw [h4 i h0 hi'] at h; cases h
  unfold shapeB
  rw [decide_eq_true ⟨h1, h2⟩, h3, hb]; rfl
theorem lex_step {s : ByteArray} {k m r : Nat} {xs : List Value} (h : LexInv s k m xs) (hk : k < s.size) {kind : Int} {text : ByteArray} {wrong : Int} (hn : NextRes s k kind text wrong) (hw : wrong < 0) (h1 : k + text.size ≤ r) (h2 : r ≤ s.size) (at_ : Value) :
    LexInv s r (m + 1) (xs ++ [.int .i64 kind, .string text, at_]) := by
  right
  refine ⟨by omega, ?_⟩
  rcases h with ⟨rfl, rfl, hs⟩ | ⟨h0, kd, tx, at2, rest, rfl, ⟨_, _, he, _⟩ | hg⟩
  · refine ⟨kind, text, at_, [], rfl, ?_⟩
    cases hl : letterB (byteAt s 0) with
    | true =>
      obtain rfl : k = 0 := hs (by omega) hl
      obtain ⟨m', h3, h4, h5, h6, ⟨_, h7⟩ | ⟨h7, _, h8, h9⟩⟩ := hn.1 hl
      · omega
      · subst h8 h9
        rw [ByteArray.size_extract] at h1
        by_cases he : m' = s.size
        · left
          subst he
          refine ⟨shape_good (by omega) (by omega) hl h5, rfl, by omega, rfl, ?_⟩
          exact ByteArray.extract_zero_size
        · right
          refine ⟨shape_bad (by omega) (h6 (by omega)), .inr ?_⟩
          rw [ByteArray.size_extract]; omega
    | false =>
      right
      refine ⟨shape_letter hl, ?_⟩
      rcases Nat.eq_zero_or_pos k with rfl | hpos
      · rcases hn.2.1 hl with h | h
        · omega
        · exact .inl h
      · have := hn.2.2.1 hw
        exact .inr (by omega)
  · omega
  · exact ⟨kd, tx, at2, rest ++ [.int .i64 kind, .string text, at_], by simp, .inr hg⟩
theorem lex_err {s : ByteArray} {k m : Nat} {xs : List Value} (h : LexInv s k m xs) (hk : k < s.size) {kind : Int} {text : ByteArray} {wrong : Int} (hn : NextRes s k kind text wrong) (hw : 0 ≤ wrong) : shapeB s = false := by
  rcases h with ⟨rfl, rfl, hs⟩ | ⟨h0, kd, tx, at2, rest, rfl, ⟨_, _, he, _⟩ | hg⟩
  · cases hl : letterB (byteAt s 0) with
    | true =>
      obtain rfl : k = 0 := hs (by omega) hl
      obtain ⟨m', h3, h4, h5, h6, ⟨h7, _⟩ | ⟨h7, h8, _⟩⟩ := hn.1 hl
      · exact shape_long (by omega)
      · omega
    | false => exact shape_letter hl
  · omega
  · exact hg.1
theorem lex_end {s : ByteArray} {k m : Nat} {xs : List Value} (h : LexInv s k m xs) (hk : k = s.size) (e : Value) :
    ∃ (kind : Int) (text : ByteArray) (at_ : Value) (rest : List Value), xs ++ [.int .i64 4, .string ⟨#[]⟩, e] = .int .i64 kind :: .string text :: at_ :: rest ∧ ((shapeB s = true ∧ m + 1 = 2 ∧ kind = 1 ∧ text = s) ∨ (shapeB s = false ∧ (m + 1 ≠ 2 ∨ kind ≠ 1 ∨ text.size < s.size))) := by
  rcases h with ⟨rfl, rfl, hs⟩ | ⟨h0, kd, tx, at2, rest, rfl, hg⟩
  · refine ⟨4, ⟨#[]⟩, e, [], rfl, .inr ⟨?_, .inl (by omega)⟩⟩
    cases hl : letterB (byteAt s 0) with
    | true =>
      rcases Nat.eq_zero_or_pos s.size with h0 | h0
      · unfold shapeB; rw [decide_eq_false (by omega)]; rfl
      · have := hs h0 hl; omega
    | false => exact shape_letter hl
  · refine ⟨kd, tx, at2, rest ++ [.int .i64 4, .string ⟨#[]⟩, e], by simp, ?_⟩
    rcases hg with ⟨a, b, _, c, d⟩ | ⟨a, b⟩
    · exact .inl ⟨a, by omega, c, d⟩
    · exact .inr ⟨a, .inr b⟩
/-- What Lex tells, as far as Name asks. -/
def LexRes (s : ByteArray) (w : World) (v : Value) (e : Int) : Prop :=
  (e ≠ 0 ∧ v = .slice none 0 0 ∧ shapeB s = false) ∨
  (e = 0 ∧ ∃ (g m c : Nat) (kind : Int) (text : ByteArray), v = .slice (some ⟨g, 0, none⟩) m c ∧ 0 < m ∧ m ≤ c ∧ c ≤ maxLen ∧ w.cell? ⟨g, 0, none⟩ = some (.int .i64 kind) ∧ w.cell? ⟨g, 1, none⟩ = some (.string text) ∧ ((shapeB s = true ∧ m = 2 ∧ kind = 1 ∧ text = s) ∨ (shapeB s = false ∧ (m ≠ 2 ∨ kind ≠ 1 ∨ text.size < s.size))))
theorem lex_done {s : ByteArray} {w : World} {base : Nat} {k m : Nat} {xs : List Value} {v e : Value} (h : LexInv s k m xs) (hk : k = s.size) (ho : w.ownsRow base 72 3 v (m + 1) (xs ++ [.int .i64 4, .string ⟨#[]⟩, e])) : LexRes s w v 0 := by
  right
  refine ⟨rfl, ?_⟩
  obtain ⟨kind, text, at_, rest, hx, hg⟩ := lex_end h hk e
  obtain ⟨_, ⟨_, h0⟩ | ⟨q, cap, cur, rfl, _, hk', hn, hm, hsz, ht⟩⟩ := ho
  · omega
  · rw [hx] at ht
    have hc : ∀ j, j < (m + 1) * 3 → w.cell? ⟨q, j, none⟩ = (Value.int .i64 kind :: .string text :: at_ :: rest)[j]? := fun j hj => by
      rw [cell_of_heap hk', ← ht, List.getElem?_take, if_pos hj]; simp
    exact ⟨q, m + 1, cap, kind, text, rfl, by omega, hn, hm, (hc 0 (by omega)).trans rfl, (hc 1 (by omega)).trans rfl, hg⟩
end Go.Proofs.YtplckmpamekloaaDoor
