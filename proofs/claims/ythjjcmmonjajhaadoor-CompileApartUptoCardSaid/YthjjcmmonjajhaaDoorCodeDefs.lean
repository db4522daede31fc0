/- The table of instructions, and what of, Known, Name, Takes, Leaves, Cost, Fast tell. -/
import Derived.Test.YthjjcmmonjajhaaDoorShelf
import Derived.WalkKit
import Derived.WalkSpells
import Derived.WalkLawsBesides
import Derived.Lib.ItoaLen
import Derived.Lib.SmallJoins
import Derived.Lib.AppendIntMem
namespace Go.Proofs.YthjjcmmonjajhaaDoor.C
open Go.RowKit Go.Sort
set_option linter.unusedVariables false

/-- The rows of the table: name, takes, leaves, more, has. -/
def sortRows : List (List UInt8 × Int × Int × Int × Int) := [([63], 0, 0, -1, 0), ([112, 117, 115, 104], 0, 1, 0, 2), ([108, 111, 97, 100], 0, 1, 0, 1), ([115, 116, 111, 114, 101], 1, 0, 0, 1), ([110, 101, 103], 1, 1, 0, 0), ([110, 111, 116], 1, 1, 0, 0), ([97, 100, 100], 2, 1, 0, 0), ([115, 117, 98], 2, 1, 0, 0), ([109, 117, 108], 2, 1, 2, 0), ([100, 105, 118], 2, 1, 7, 0), ([109, 111, 100], 2, 1, 7, 0), ([108, 101, 115, 115], 2, 1, 0, 0), ([115, 97, 109, 101], 2, 1, 0, 0), ([97, 110, 100], 2, 1, 0, 0), ([111, 114], 2, 1, 0, 0), ([106, 117, 109, 112], 0, 0, 0, 1), ([122, 101, 114, 111], 1, 0, 0, 1), ([99, 97, 108, 108], 0, 1, 9, 1), ([114, 101, 116, 117, 114, 110], 1, 0, 1, 0), ([112, 114, 105, 110, 116], 1, 0, 4, 0), ([107, 101, 101, 112], 1, 0, 4, 0), ([105, 110, 112, 117, 116], 0, 0, 3, 3), ([97, 114, 114, 97, 121], 0, 0, 19, 3), ([103, 101, 116], 1, 1, 2, 1), ([115, 101, 116], 2, 0, 2, 1), ([99, 108, 111, 99, 107], 0, 1, 1, 0)]
def sortRow (i : Nat) : List UInt8 × Int × Int × Int × Int := sortRows.getD i ([], 0, 0, 0, 0)
def nm (i : Nat) : ByteArray := ⟨(sortRow i).1.toArray⟩
def tk (i : Nat) : Int := (sortRow i).2.1
def lv (i : Nat) : Int := (sortRow i).2.2.1
def mo (i : Nat) : Int := (sortRow i).2.2.2.1
def hs (i : Nat) : Int := (sortRow i).2.2.2.2
def sortCells (r : List UInt8 × Int × Int × Int × Int) : List Value := [.string ⟨r.1.toArray⟩, .int .i64 r.2.1, .int .i64 r.2.2.1, .int .i64 r.2.2.2.1, .int .i64 r.2.2.2.2]
def sortAll : List Value := sortRows.flatMap sortCells
/-- Where an instruction stands in the table. -/
def ix (op : Int) : Nat := if 1 ≤ op ∧ op ≤ 25 then op.toNat else 0
theorem ix_lt (op : Int) : ix op < 26 := by unfold ix; split <;> omega

/-- The library's table of powers of ten, and the table of instructions, as they were laid. -/
def Pow (w : World) : Prop := Lib.TabIs Tryd.prog w "internal/strconv.uint64pow10" .u64 Lib.pow10Tab
def Srt (w : World) : Prop := w.var? Tryd.prog "evenhand/code.sorts" = some sortAll.toArray
def Tab (w : World) : Prop := Pow w ∧ Srt w
theorem gPow : Tryd.prog.globalNamed "internal/strconv.uint64pow10" = some 3 := by kernel_rfl
theorem gSrt : Tryd.prog.globalNamed "evenhand/code.sorts" = some 1 := by kernel_rfl
theorem Tab.below {w w' : World} (h : Tab w) (hb : Below w.heap.size w w') : Tab w' :=
  ⟨Joins.tab_stays gPow h.1 hb (Nat.le_refl _), Joins.var_stays gSrt h.2 hb (Nat.le_refl _)⟩
theorem hb_start (w : World) : Hid (Below w.heap.size w w) := Below.refl _ _
theorem hb_step {w0 w w' : World} (h : Hid (Below w0.heap.size w0 w)) (h' : Below w.heap.size w w') : Hid (Below w0.heap.size w0 w') :=
  Below.trans h.out (h'.mono h.out.size)
theorem hb_alloc {w0 w : World} (h : Hid (Below w0.heap.size w0 w)) (o : Obj) : Hid (Below w0.heap.size w0 (w.alloc o)) := Below.alloc h.out h.out.size o
theorem Tab.at {w0 w : World} (ht : Hid (Tab w0)) (h : Hid (Below w0.heap.size w0 w)) : Tab w := ht.out.below h.out

theorem sort_cell {w : World} (h : Srt w) (i : Nat) (hi : i < 26) (j : Nat) : w.cell? ⟨1, i * 5 + j, none⟩ = sortAll[i * 5 + j]? := by
  have := World.var?_cell gSrt h (i * 5 + j)
  simpa using this
theorem sort_cells {w : World} (h : Srt w) (i : Nat) (hi : i < 26) :
    w.cell? ⟨1, i * 5, none⟩ = some (.string (nm i)) ∧ w.cell? ⟨1, i * 5 + 1, none⟩ = some (.int .i64 (tk i)) ∧
    w.cell? ⟨1, i * 5 + 2, none⟩ = some (.int .i64 (lv i)) ∧ w.cell? ⟨1, i * 5 + 3, none⟩ = some (.int .i64 (mo i)) ∧
    w.cell? ⟨1, i * 5 + 4, none⟩ = some (.int .i64 (hs i)) := by
  have h0 := sort_cell h i hi 0
  have h1 := sort_cell h i hi 1
  have h2 := sort_cell h i hi 2
  have h3 := sort_cell h i hi 3
  have h4 := sort_cell h i hi 4
  rw [Nat.add_zero] at h0
  rw [h0, h1, h2, h3, h4]
  clear h0 h1 h2 h3 h4
  have key : ∀ i : Fin 26, sortAll[i.val * 5]? = some (.string (nm i.val)) ∧ sortAll[i.val * 5 + 1]? = some (.int .i64 (tk i.val)) ∧ sortAll[i.val * 5 + 2]? = some (.int .i64 (lv i.val)) ∧ sortAll[i.val * 5 + 3]? = some (.int .i64 (mo i.val)) ∧ sortAll[i.val * 5 + 4]? = some (.int .i64 (hs i.val)) := by
    intro ⟨i, hi⟩
    have : i = 0 ∨ i = 1 ∨ i = 2 ∨ i = 3 ∨ i = 4 ∨ i = 5 ∨ i = 6 ∨ i = 7 ∨ i = 8 ∨ i = 9 ∨ i = 10 ∨ i = 11 ∨ i = 12 ∨ i = 13 ∨ i = 14 ∨ i = 15 ∨ i = 16 ∨ i = 17 ∨ i = 18 ∨ i = 19 ∨ i = 20 ∨ i = 21 ∨ i = 22 ∨ i = 23 ∨ i = 24 ∨ i = 25 := by omega
    rcases this with rfl | rfl | rfl | rfl | rfl | rfl | rfl | rfl | rfl | rfl | rfl | rfl | rfl | rfl | rfl | rfl | rfl | rfl | rfl | rfl | rfl | rfl | rfl | rfl | rfl | rfl <;> exact ⟨rfl, rfl, rfl, rfl, rfl⟩
  exact key ⟨i, hi⟩

set_option maxHeartbeats 1000000 in
set_option maxRecDepth 1000000 in
theorem known_r (op : Int) (b : Bool) (hb : decide (1 ≤ op ∧ op ≤ 25) = b) (w : World) :
    Calls Tryd.prog 11 #[.int .i64 op] w fun e w' => e = .returned (.bool b) ∧ w' = w := by
  subst hb
  by_cases h1 : 1 ≤ op
  · by_cases h2 : op ≤ 25
    · rw [decide_eq_true ⟨h1, h2⟩]
      go_enter Tryd.func11, Tryd.ntmps11
      go_wp2
      go_ret
      exact ⟨rfl, rfl⟩
    · rw [decide_eq_false (fun h => h2 h.2)]
      go_enter Tryd.func11, Tryd.ntmps11
      go_wp2
      go_ret
      exact ⟨rfl, rfl⟩
  · rw [decide_eq_false (fun h => h1 h.1)]
    go_enter Tryd.func11, Tryd.ntmps11
    go_wp2
    go_ret
    exact ⟨rfl, rfl⟩


theorem lt_of_cell {w : World} {b o : Nat} {v : Value} (h : w.cell? ⟨b, o, none⟩ = some v) : b < w.heap.size := by
  rcases Nat.lt_or_ge b w.heap.size with h' | h'
  · exact h'
  · simp [World.cell?, Array.getElem?_eq_none h'] at h
set_option maxHeartbeats 1000000 in
set_option maxRecDepth 1000000 in
theorem of_r (op : Int) (n : Nat) (hop : ix op = n) (w : World) (ht : Tab w) :
    Calls Tryd.prog 35 #[.int .i64 op] w fun e w' => e = .returned (.agg #[.string (nm n), .int .i64 (tk n), .int .i64 (lv n), .int .i64 (mo n), .int .i64 (hs n)]) ∧ Below w.heap.size w w' := by
  obtain ⟨b, hb⟩ : ∃ b, decide (1 ≤ op ∧ op ≤ 25) = b := ⟨_, rfl⟩
  have hn : n < 26 := by rw [← hop]; exact ix_lt op
  have HK := Lib.hid hb
  obtain ⟨c0, c1, c2, c3, c4⟩ := sort_cells ht.2 n hn
  have hz : 1 < w.heap.size := lt_of_cell c0
  clear ht
  cases b with
  | true =>
    have h1 : 1 ≤ op ∧ op ≤ 25 := by simpa using hb
    obtain rfl : op = (n : Int) := by unfold ix at hop; rw [if_pos h1] at hop; omega
    clear hb hop h1
    go_enter Tryd.func35, Tryd.ntmps35
    go_wp2_with (go_at_call 11; refine (known_r _ _ HK.out _).mono ?_; rintro e w' ⟨rfl, rfl⟩)
    refine bodyPost_ret (results_cell_row rfl _ _ w.heap.size 96 #[.string (nm n), .int .i64 (tk n), .int .i64 (lv n), .int .i64 (mo n), .int .i64 (hs n)] (0, 0) _ rfl (heap_alloc_new _ _) Tryd.underlying96 rfl rfl) rfl ?_
    exact ⟨rfl, (Below.refl _ _).alloc (Nat.le_refl _) _⟩
  | false =>
    have h1 : ¬ (1 ≤ op ∧ op ≤ 25) := by simpa using hb
    obtain rfl : n = 0 := by unfold ix at hop; rw [if_neg h1] at hop; omega
    clear hb hop h1
    simp only [Nat.zero_mul, Nat.zero_add] at c0 c1 c2 c3 c4
    go_enter Tryd.func35, Tryd.ntmps35
    go_wp2_with (go_at_call 11; refine (known_r _ _ HK.out _).mono ?_; rintro e w' ⟨rfl, rfl⟩)
    refine bodyPost_ret (results_cell_row rfl _ _ w.heap.size 96 #[.string (nm 0), .int .i64 (tk 0), .int .i64 (lv 0), .int .i64 (mo 0), .int .i64 (hs 0)] (0, 0) _ rfl (heap_alloc_new _ _) Tryd.underlying96 rfl rfl) rfl ?_
    exact ⟨rfl, (Below.refl _ _).alloc (Nat.le_refl _) _⟩

theorem fld0 (n : Nat) : ∀ w : World, (Instr.field 96 (.agg #[.string (nm n), .int .i64 (tk n), .int .i64 (lv n), .int .i64 (mo n), .int .i64 (hs n)]) 0).run Tryd.prog w = .ok (.string (nm n)) w := fun _ => by kernel_rfl
theorem fld1 (n : Nat) : ∀ w : World, (Instr.field 96 (.agg #[.string (nm n), .int .i64 (tk n), .int .i64 (lv n), .int .i64 (mo n), .int .i64 (hs n)]) 1).run Tryd.prog w = .ok (.int .i64 (tk n)) w := fun _ => by kernel_rfl
theorem fld2 (n : Nat) : ∀ w : World, (Instr.field 96 (.agg #[.string (nm n), .int .i64 (tk n), .int .i64 (lv n), .int .i64 (mo n), .int .i64 (hs n)]) 2).run Tryd.prog w = .ok (.int .i64 (lv n)) w := fun _ => by kernel_rfl
theorem fld3 (n : Nat) : ∀ w : World, (Instr.field 96 (.agg #[.string (nm n), .int .i64 (tk n), .int .i64 (lv n), .int .i64 (mo n), .int .i64 (hs n)]) 3).run Tryd.prog w = .ok (.int .i64 (mo n)) w := fun _ => by kernel_rfl
theorem fld4 (n : Nat) : ∀ w : World, (Instr.field 96 (.agg #[.string (nm n), .int .i64 (tk n), .int .i64 (lv n), .int .i64 (mo n), .int .i64 (hs n)]) 4).run Tryd.prog w = .ok (.int .i64 (hs n)) w := fun _ => by kernel_rfl

set_option maxHeartbeats 1000000 in
set_option maxRecDepth 1000000 in
theorem name_r (op : Int) (n : Nat) (hop : ix op = n) (w : World) (ht : Tab w) :
    Calls Tryd.prog 34 #[.int .i64 op] w fun e w' => e = .returned (.string (nm n)) ∧ Below w.heap.size w w' := by
  have HT := Lib.hid ht
  have HK := Lib.hid hop
  clear ht hop
  have hf := fld0 n
  go_enter Tryd.func34, Tryd.ntmps34
  go_wp2_with (go_at_call 35; refine (of_r _ _ HK.out _ HT.out).mono ?_; rintro e w' ⟨rfl, hb⟩; have HB := Lib.hid hb; clear hb)
  go_ret
  exact ⟨rfl, HB.out⟩

end Go.Proofs.YthjjcmmonjajhaaDoor.C
