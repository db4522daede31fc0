/- Text: the lines of instructions; what the laws show in any case. -/
import Derived.Test.YthjjcmmonjajhaaDoorCodeLine2
namespace Go.Proofs.YthjjcmmonjajhaaDoor.C
open Go.RowKit Go.Sort
set_option linter.unusedVariables false

abbrev Ins3 := Int × Int × Int
def insAt (l : List Ins3) (i : Nat) : Ins3 := l.getD i (0, 0, 0)
/-- The lines of the first k. -/
def lines (l : List Ins3) (k : Nat) : List UInt8 := (List.range k).flatMap fun (i : Nat) => (codeLine i (insAt l i).1 (insAt l i).2.1 (insAt l i).2.2).data.toList
theorem lines_next (l : List Ins3) (k : Nat) : lines l (k + 1) = lines l k ++ (codeLine k (insAt l k).1 (insAt l k).2.1 (insAt l k).2.2).data.toList := by
  unfold lines; rw [List.range_succ, List.flatMap_append]; simp
def InsR (l : List Ins3) : Prop := ∀ x ∈ l, R x.1 ∧ R x.2.1 ∧ R x.2.2
theorem insAt_r (l : List Ins3) (h : InsR l) (i : Nat) : R (insAt l i).1 ∧ R (insAt l i).2.1 ∧ R (insAt l i).2.2 := by
  unfold insAt
  by_cases hi : i < l.length
  · rw [List.getD_eq_getElem?_getD, List.getElem?_eq_getElem hi]; exact h _ (List.getElem_mem _)
  · rw [List.getD_eq_getElem?_getD, List.getElem?_eq_none (by omega)]; simp [R]
theorem lines_size (l : List Ins3) (h : InsR l) (k : Nat) (hk : k ≤ 5000000) : (lines l k).length ≤ 200 * k := by
  induction k with
  | zero => simp [lines]
  | succ k ih =>
    have h1 := insAt_r l h k
    have h2 := line_size (k : Int) (insAt l k).1 _ _ (by unfold R; omega) h1.2.1 h1.2.2
    have h3 : ∀ b : ByteArray, b.data.toList.length = b.size := fun b => by cases b; rfl
    rw [lines_next, List.length_append, h3]
    have := ih (by omega)
    omega

/-- Instructions in a row of cells. -/
def InsIn (w : World) (b off : Nat) (l : List Ins3) : Prop :=
  b < w.heap.size ∧ ∀ i, i < l.length → w.cell? ⟨b, off + i * 3, none⟩ = some (.int .i64 (insAt l i).1) ∧ w.cell? ⟨b, off + i * 3 + 1, none⟩ = some (.int .i64 (insAt l i).2.1) ∧ w.cell? ⟨b, off + i * 3 + 2, none⟩ = some (.int .i64 (insAt l i).2.2)
theorem InsIn.below {w w' : World} {b off : Nat} {l : List Ins3} (h : InsIn w b off l) (hb : Below w.heap.size w w') : InsIn w' b off l :=
  ⟨Nat.lt_of_lt_of_le h.1 hb.size, fun i hi => ⟨(hb.cell h.1).trans (h.2 i hi).1, (hb.cell h.1).trans (h.2 i hi).2.1, (hb.cell h.1).trans (h.2 i hi).2.2⟩⟩

theorem lt_of_heap {w : World} {b : Nat} {o : Obj} (h : w.heap[b]? = some o) : b < w.heap.size := (Array.getElem?_eq_some_iff.1 h).1
theorem isb_alloc {w : World} {B b : Nat} {bs : List Value} (h : Hid (Lib.IsBuilder 66 5 B b bs w)) (o : Obj) : Hid (Lib.IsBuilder 66 5 B b bs (w.alloc o)) := by
  rcases h with ⟨h1, v, h2, h3, h4⟩ | ⟨h1, v, h2, h3, h4⟩
  · refine .inl ⟨h1, v, ?_, h3.alloc o, h4⟩
    rw [heap_alloc_old _ _ (lt_of_heap h2)]; exact h2
  · refine .inr ⟨h1, v, ?_, h3.alloc o, h4⟩
    rw [heap_alloc_old _ _ (lt_of_heap h2)]; exact h2
theorem isb_below {w w' : World} {B b : Nat} {bs : List Value} (h : Hid (Lib.IsBuilder 66 5 B b bs w)) (hb : Below w.heap.size w w') : Hid (Lib.IsBuilder 66 5 B b bs w') := by
  rcases h with ⟨h1, v, h2, h3, h4⟩ | ⟨h1, v, h2, h3, h4⟩
  · refine .inl ⟨h1, v, ?_, own_below h3 hb, h4⟩
    rw [hb.block b (lt_of_heap h2)]; exact h2
  · refine .inr ⟨h1, v, ?_, own_below h3 hb, h4⟩
    rw [hb.block b (lt_of_heap h2)]; exact h2
theorem isb_new (w : World) : Hid (Lib.IsBuilder 66 5 w.heap.size w.heap.size (Lib.byteCells []) (w.alloc (.cells #[.pointer none, .slice none 0 0] 66))) :=
  .inl ⟨Nat.le_refl _, .slice none 0 0, heap_alloc_new _ _, World.ownsRow_nil _ _ _ _, by simp [Value.ownBlock]⟩
theorem hb_w {w0 X w' : World} (h : Hid (Below w0.heap.size w0 X)) (h' : Below w0.heap.size X w') : Hid (Below w0.heap.size w0 w') := Below.trans h.out h'

set_option maxHeartbeats 4000000 in
set_option maxRecDepth 1000000 in
theorem text_r (b off cap : Nat) (l : List Ins3) (hl : l.length ≤ 5000000) (hr : InsR l) (hc : l.length ≤ cap) (s : ByteArray) (hs : (⟨(lines l l.length).toArray⟩ : ByteArray) = s) (w : World) (hi : InsIn w b off l) (ht : Tab w) :
    Calls Tryd.prog 9 #[.slice (some ⟨b, off, none⟩) l.length cap] w fun e w' => e = .returned (.string s) ∧ Below w.heap.size w w' := by
  have HT := Lib.hid ht
  have HI := Lib.hid hi
  have HR := Lib.hid hr
  have HS := Lib.hid hs
  clear ht hi hr hs
  have HB := hb_start w
  go_enter Tryd.func9, Tryd.ntmps9
  go_wp2_with fail
  go_loopw [8] (fun i wr => ∃ k : Nat, i = .int .i64 k ∧ k ≤ l.length ∧ Hid (Lib.IsBuilder 66 5 w.heap.size w.heap.size (Lib.byteCells (lines l k)) wr) ∧ Hid (Below w.heap.size w wr)) (fun i _ => l.length - (intOf i).toNat)
  case atStart => exact ⟨0, rfl, by omega, isb_new w, hb_alloc HB _⟩
  case round =>
    clear HB
    obtain ⟨k, rfl, hk, HQ, HB⟩ := hrel
    by_cases hlt : k < l.length
    · have hcell := (HI.out.below HB.out).2 k hlt
      obtain ⟨c0, c1, c2⟩ := hcell
      have hbl : b < wr.heap.size := (HI.out.below HB.out).1
      obtain ⟨r0, r1, r2⟩ := insAt_r l HR.out k
      have HR0 := Lib.hid r0
      have HR1 := Lib.hid r1
      have HR2 := Lib.hid r2
      generalize h0 : (insAt l k).1 = x0 at c0 HR0
      generalize h1 : (insAt l k).2.1 = x1 at c1 HR1
      generalize h2 : (insAt l k).2.2 = x2 at c2 HR2
      obtain ⟨t, ht⟩ : ∃ t, codeLine k x0 x1 x2 = t := ⟨_, rfl⟩
      have hnx := lines_next l k
      rw [h0, h1, h2, ht] at hnx
      have HX := Lib.hid hnx
      have HTT := Lib.hid ht
      have htz : t.size ≤ 200 := by rw [← ht]; exact line_size _ _ _ _ (by unfold R; omega) HR1.out HR2.out
      have hlz := lines_size l HR.out k (by omega)
      clear hnx ht h0 h1 h2 r0 r1 r2
      go_wp2_with (first | (go_at_call 17; refine (line_r _ _ _ _ (by unfold R; omega) HR1.out HR2.out _ HTT.out _ (Tab.at HT (by repeat (first | exact HB | refine hb_drew ?_ | refine hb_alloc ?_ _)))).mono ?_; rintro e w2 ⟨rfl, hb⟩; have HQ2 := isb_below (isb_alloc HQ _) hb; clear HQ; have HQ := HQ2; clear HQ2; have HB2 : Hid (Below w.heap.size w w2) := hb_step (by repeat (first | exact HB | refine hb_drew ?_ | refine hb_alloc ?_ _)) hb; clear HB; have HB := HB2; clear HB2; clear hb) | (go_at_call 16; refine (write_r w.heap.size _ _ _ _ HQ.out (by rw [Lib.byteCells_length]; omega) HB.out.size).mono ?_; rintro e w2 ⟨rfl, hq, hb⟩; clear HQ; have HQ := Lib.hid hq; clear hq; have HB2 := hb_w HB hb; clear HB; have HB := HB2; clear HB2; clear hb))
      go_roundw
      case rel => exact ⟨k + 1, by go_num, by omega, by rw [HX.out]; have := HQ.out; rw [Lib.byteCells, List.map_append]; exact .inr this, HB⟩
      case measure => simp [intOf]; omega
    · obtain rfl : k = l.length := by omega
      go_wp2_with (go_at_call 18; refine (Tryd.Builder_String_any w.heap.size _ _ _ HQ.out HB.out.size).mono ?_; rintro e w2 ⟨rfl, hb⟩; have HB2 := hb_w HB hb; clear HB; have HB := HB2; clear HB2; clear hb)
      go_ret
      exact ⟨congrArg (fun x => Ending.returned (Value.string x)) HS.out, HB.out⟩

set_option maxHeartbeats 4000000 in
set_option maxRecDepth 1000000 in
theorem text_nil (cap : Nat) (w : World) (a0 : Option Addr) :
    Calls Tryd.prog 9 #[.slice a0 0 cap] w fun e w' => e = .returned (.string ⟨#[]⟩) ∧ Below w.heap.size w w' := by
  have HB := hb_start w
  go_enter Tryd.func9, Tryd.ntmps9
  go_wp2_with fail
  go_loopw [8] (fun i wr => i = .int .i64 0 ∧ Hid (Lib.IsBuilder 66 5 w.heap.size w.heap.size (Lib.byteCells []) wr) ∧ Hid (Below w.heap.size w wr)) (fun i _ => 0)
  case atStart => exact ⟨rfl, isb_new w, hb_alloc HB _⟩
  case round =>
    clear HB
    obtain ⟨rfl, HQ, HB⟩ := hrel
    go_wp2_with (go_at_call 18; refine (Tryd.Builder_String_any w.heap.size _ _ _ HQ.out HB.out.size).mono ?_; rintro e w2 ⟨rfl, hb⟩; have HB2 := hb_w HB hb; clear HB; have HB := HB2; clear HB2; clear hb)
    go_ret
    exact ⟨rfl, HB.out⟩
end Go.Proofs.YthjjcmmonjajhaaDoor.C
