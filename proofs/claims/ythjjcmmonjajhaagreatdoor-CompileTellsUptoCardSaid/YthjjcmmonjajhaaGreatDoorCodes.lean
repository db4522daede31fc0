/- The table of instructions, and what of, Known, Name, Takes, Leaves, Cost, Fast tell. The strings.Builder of this program (its copyCheck ends in a refused panic, so the shelf's laying does not fit): copyCheck, WriteString. A line of an instruction: its place, its name, A, N. A line, by the program and by the document: both codeLine. Text: the lines of instructions; what the laws show in any case. -/
import Derived.Test.YthjjcmmonjajhaaGreatDoorShelf
import Derived.WalkKit
import Derived.WalkSpells
import Derived.WalkLawsBesides
import Derived.Lib.ItoaLen
import Derived.Lib.SmallJoins
import Derived.Lib.AppendIntMem
import Derived.Shelf.Strings.Builder1
import Derived.Deep.RegionWith
import Derived.Deep.Cut
import Derived.Deep.CutRange
import Derived.Deep.DeepCutAuto
import Derived.Lib.Join
import Derived.Laws.OwnMore
import Derived.OwnWalk
namespace Go.Proofs.YthjjcmmonjajhaaGreatDoor.C
open Go.RowKit Go.Sort
set_option linter.unusedVariables false

/-- The rows of the table: name, takes, leaves, more, has. -/
def sortRows : List (List UInt8 × Int × Int × Int × Int) := [([63], 0, 0, -1, 0), ([112, 117, 115, 104], 0, 1, 0, 2), ([108, 111, 97, 100], 0, 1, 0, 1), ([115, 116, 111, 114, 101], 1, 0, 0, 1), ([110, 101, 103], 1, 1, 0, 0), ([110, 111, 116], 1, 1, 0, 0), ([97, 100, 100], 2, 1, 0, 0), ([115, 117, 98], 2, 1, 0, 0), ([109, 117, 108], 2, 1, 2, 0), ([100, 105, 118], 2, 1, 7, 0), ([109, 111, 100], 2, 1, 7, 0), ([108, 101, 115, 115], 2, 1, 0, 0), ([115, 97, 109, 101], 2, 1, 0, 0), ([97, 110, 100], 2, 1, 0, 0), ([111, 114], 2, 1, 0, 0), ([106, 117, 109, 112], 0, 0, 0, 1), ([122, 101, 114, 111], 1, 0, 0, 1), ([99, 97, 108, 108], 0, 1, 9, 1), ([114, 101, 116, 117, 114, 110], 1, 0, 1, 0), ([112, 114, 105, 110, 116], 1, 0, 4, 0), ([107, 101, 101, 112], 1, 0, 4, 0), ([105, 110, 112, 117, 116], 0, 0, 3, 3), ([97, 114, 114, 97, 121], 0, 0, 19, 3), ([103, 101, 116], 1, 1, 2, 1), ([115, 101, 116], 2, 0, 2, 1), ([99, 108, 111, 99, 107], 0, 1, 1, 0)]
def sortRow (i : Nat) : List UInt8 × Int × Int × Int × Int := sortRows.getD i ([], 0, 0, 0, 0)
def nm (i : Nat) : ByteArray := ⟨(sortRow i).1.toArray⟩
def tk (i : Nat) : Int := (sortRow i).2.1
def lv (i : Nat) : Int := (sortRow i).2.2.1
def mo (i : Nat) : Int := (sortRow i).2.2.2.1
def hs (i : Nat) : Int := (sortRow i).2.2.2.2
def sortCells (r : List UInt8 × Int × Int × Int × Int) : List Value := [.string ⟨r.1.toArray⟩, .int .i64 r.2.1, .int .i64 r.2.2.1, .int .i64 r.2.2.2.1, .int .i64 r.2.2.2.2]
def sortAll : List Value := sortRows.flatMap sortCells
/-- Where an instruction stands in the table. -/
def ix (op : Int) : Nat := if 1 ≤ op ∧ op ≤ 25 then op.toNat else 0
theorem ix_lt (op : Int) : ix op < 26 := by unfold ix; split <;> omega

/-- The library's table of powers of ten, and the table of instructions, as they were laid. -/
def Pow (w : World) : Prop := Lib.TabIs Tryz.prog w "internal/strconv.uint64pow10" .u64 Lib.pow10Tab
def Srt (w : World) : Prop := w.var? Tryz.prog "evenhand/code.sorts" = some sortAll.toArray
def Tab (w : World) : Prop := Pow w ∧ Srt w
theorem gPow : Tryz.prog.globalNamed "internal/strconv.uint64pow10" = some 4 := by kernel_rfl
theorem gSrt : Tryz.prog.globalNamed "evenhand/code.sorts" = some 1 := by kernel_rfl
theorem Tab.below {w w' : World} (h : Tab w) (hb : Below w.heap.size w w') : Tab w' :=
  ⟨Joins.tab_stays gPow h.1 hb (Nat.le_refl _), Joins.var_stays gSrt h.2 hb (Nat.le_refl _)⟩
theorem hb_start (w : World) : Hid (Below w.heap.size w w) := Below.refl _ _
theorem hb_step {w0 w w' : World} (h : Hid (Below w0.heap.size w0 w)) (h' : Below w.heap.size w w') : Hid (Below w0.heap.size w0 w') :=
  Below.trans h.out (h'.mono h.out.size)
theorem hb_alloc {w0 w : World} (h : Hid (Below w0.heap.size w0 w)) (o : Obj) : Hid (Below w0.heap.size w0 (w.alloc o)) := Below.alloc h.out h.out.size o
theorem Tab.at {w0 w : World} (ht : Hid (Tab w0)) (h : Hid (Below w0.heap.size w0 w)) : Tab w := ht.out.below h.out

theorem sort_cell {w : World} (h : Srt w) (i : Nat) (hi : i < 26) (j : Nat) : w.cell? ⟨1, i * 5 + j, none⟩ = sortAll[i * 5 + j]? := by
  have := World.var?_cell gSrt h (i * 5 + j)
  simpa using this
theorem sort_cells {w : World} (h : Srt w) (i : Nat) (hi : i < 26) :
    w.cell? ⟨1, i * 5, none⟩ = some (.string (nm i)) ∧ w.cell? ⟨1, i * 5 + 1, none⟩ = some (.int .i64 (tk i)) ∧
    w.cell? ⟨1, i * 5 + 2, none⟩ = some (.int .i64 (lv i)) ∧ w.cell? ⟨1, i * 5 + 3, none⟩ = some (.int .i64 (mo i)) ∧
    w.cell? ⟨1, i * 5 + 4, none⟩ = some (.int .i64 (hs i)) := by
  have h0 := sort_cell h i hi 0
  have h1 := sort_cell h i hi 1
  have h2 := sort_cell h i hi 2
  have h3 := sort_cell h i hi 3
  have h4 := sort_cell h i hi 4
  rw [Nat.add_zero] at h0
  rw [h0, h1, h2, h3, h4]
  clear h0 h1 h2 h3 h4
  have key : ∀ i : Fin 26, sortAll[i.val * 5]? = some (.string (nm i.val)) ∧ sortAll[i.val * 5 + 1]? = some (.int .i64 (tk i.val)) ∧ sortAll[i.val * 5 + 2]? = some (.int .i64 (lv i.val)) ∧ sortAll[i.val * 5 + 3]? = some (.int .i64 (mo i.val)) ∧ sortAll[i.val * 5 + 4]? = some (.int .i64 (hs i.val)) := by
    intro ⟨i, hi⟩
    have : i = 0 ∨ i = 1 ∨ i = 2 ∨ i = 3 ∨ i = 4 ∨ i = 5 ∨ i = 6 ∨ i = 7 ∨ i = 8 ∨ i = 9 ∨ i = 10 ∨ i = 11 ∨ i = 12 ∨ i = 13 ∨ i = 14 ∨ i = 15 ∨ i = 16 ∨ i = 17 ∨ i = 18 ∨ i = 19 ∨ i = 20 ∨ i = 21 ∨ i = 22 ∨ i = 23 ∨ i = 24 ∨ i = 25 := by omega
    rcases this with rfl | rfl | rfl | rfl | rfl | rfl | rfl | rfl | rfl | rfl | rfl | rfl | rfl | rfl | rfl | rfl | rfl | rfl | rfl | rfl | rfl | rfl | rfl | rfl | rfl | rfl <;> exact ⟨rfl, rfl, rfl, rfl, rfl⟩
  exact key ⟨i, hi⟩

set_option maxHeartbeats 1000000 in
set_option maxRecDepth 1000000 in
theorem known_r (op : Int) (b : Bool) (hb : decide (1 ≤ op ∧ op ≤ 25) = b) (w : World) :
    Calls Tryz.prog 77 #[.int .i64 op] w fun e w' => e = .returned (.bool b) ∧ w' = w := by
  subst hb
  by_cases h1 : 1 ≤ op
  · by_cases h2 : op ≤ 25
    · rw [decide_eq_true ⟨h1, h2⟩]
      go_enter Tryz.func77, Tryz.ntmps77
      go_wp2
      go_ret
      exact ⟨rfl, rfl⟩
    · rw [decide_eq_false (fun h => h2 h.2)]
      go_enter Tryz.func77, Tryz.ntmps77
      go_wp2
      go_ret
      exact ⟨rfl, rfl⟩
  · rw [decide_eq_false (fun h => h1 h.1)]
    go_enter Tryz.func77, Tryz.ntmps77
    go_wp2
    go_ret
    exact ⟨rfl, rfl⟩


theorem lt_of_cell {w : World} {b o : Nat} {v : Value} (h : w.cell? ⟨b, o, none⟩ = some v) : b < w.heap.size := by
  rcases Nat.lt_or_ge b w.heap.size with h' | h'
  · exact h'
  · simp [World.cell?, Array.getElem?_eq_none h'] at h
set_option maxHeartbeats 1000000 in
set_option maxRecDepth 1000000 in
theorem of_r (op : Int) (n : Nat) (hop : ix op = n) (w : World) (ht : Tab w) :
    Calls Tryz.prog 51 #[.int .i64 op] w fun e w' => e = .returned (.agg #[.string (nm n), .int .i64 (tk n), .int .i64 (lv n), .int .i64 (mo n), .int .i64 (hs n)]) ∧ Below w.heap.size w w' := by
  obtain ⟨b, hb⟩ : ∃ b, decide (1 ≤ op ∧ op ≤ 25) = b := ⟨_, rfl⟩
  have hn : n < 26 := by rw [← hop]; exact ix_lt op
  have HK := Lib.hid hb
  obtain ⟨c0, c1, c2, c3, c4⟩ := sort_cells ht.2 n hn
  have hz : 1 < w.heap.size := lt_of_cell c0
  clear ht
  cases b with
  | true =>
    have h1 : 1 ≤ op ∧ op ≤ 25 := by simpa using hb
    obtain rfl : op = (n : Int) := by unfold ix at hop; rw [if_pos h1] at hop; omega
    clear hb hop h1
    go_enter Tryz.func51, Tryz.ntmps51
    go_wp2_with (go_at_call 77; refine (known_r _ _ HK.out _).mono ?_; rintro e w' ⟨rfl, rfl⟩)
    refine bodyPost_ret (results_cell_row rfl _ _ w.heap.size 120 #[.string (nm n), .int .i64 (tk n), .int .i64 (lv n), .int .i64 (mo n), .int .i64 (hs n)] (0, 0) _ rfl (heap_alloc_new _ _) Tryz.underlying120 rfl rfl) rfl ?_
    exact ⟨rfl, (Below.refl _ _).alloc (Nat.le_refl _) _⟩
  | false =>
    have h1 : ¬ (1 ≤ op ∧ op ≤ 25) := by simpa using hb
    obtain rfl : n = 0 := by unfold ix at hop; rw [if_neg h1] at hop; omega
    clear hb hop h1
    simp only [Nat.zero_mul, Nat.zero_add] at c0 c1 c2 c3 c4
    go_enter Tryz.func51, Tryz.ntmps51
    go_wp2_with (go_at_call 77; refine (known_r _ _ HK.out _).mono ?_; rintro e w' ⟨rfl, rfl⟩)
    refine bodyPost_ret (results_cell_row rfl _ _ w.heap.size 120 #[.string (nm 0), .int .i64 (tk 0), .int .i64 (lv 0), .int .i64 (mo 0), .int .i64 (hs 0)] (0, 0) _ rfl (heap_alloc_new _ _) Tryz.underlying120 rfl rfl) rfl ?_
    exact ⟨rfl, (Below.refl _ _).alloc (Nat.le_refl _) _⟩

theorem fld0 (n : Nat) : ∀ w : World, (Instr.field 120 (.agg #[.string (nm n), .int .i64 (tk n), .int .i64 (lv n), .int .i64 (mo n), .int .i64 (hs n)]) 0).run Tryz.prog w = .ok (.string (nm n)) w := fun _ => by kernel_rfl
theorem fld1 (n : Nat) : ∀ w : World, (Instr.field 120 (.agg #[.string (nm n), .int .i64 (tk n), .int .i64 (lv n), .int .i64 (mo n), .int .i64 (hs n)]) 1).run Tryz.prog w = .ok (.int .i64 (tk n)) w := fun _ => by kernel_rfl
theorem fld2 (n : Nat) : ∀ w : World, (Instr.field 120 (.agg #[.string (nm n), .int .i64 (tk n), .int .i64 (lv n), .int .i64 (mo n), .int .i64 (hs n)]) 2).run Tryz.prog w = .ok (.int .i64 (lv n)) w := fun _ => by kernel_rfl
theorem fld3 (n : Nat) : ∀ w : World, (Instr.field 120 (.agg #[.string (nm n), .int .i64 (tk n), .int .i64 (lv n), .int .i64 (mo n), .int .i64 (hs n)]) 3).run Tryz.prog w = .ok (.int .i64 (mo n)) w := fun _ => by kernel_rfl
theorem fld4 (n : Nat) : ∀ w : World, (Instr.field 120 (.agg #[.string (nm n), .int .i64 (tk n), .int .i64 (lv n), .int .i64 (mo n), .int .i64 (hs n)]) 4).run Tryz.prog w = .ok (.int .i64 (hs n)) w := fun _ => by kernel_rfl

set_option maxHeartbeats 1000000 in
set_option maxRecDepth 1000000 in
theorem name_r (op : Int) (n : Nat) (hop : ix op = n) (w : World) (ht : Tab w) :
    Calls Tryz.prog 50 #[.int .i64 op] w fun e w' => e = .returned (.string (nm n)) ∧ Below w.heap.size w w' := by
  have HT := Lib.hid ht
  have HK := Lib.hid hop
  clear ht hop
  have hf := fld0 n
  go_enter Tryz.func50, Tryz.ntmps50
  go_wp2_with (go_at_call 51; refine (of_r _ _ HK.out _ HT.out).mono ?_; rintro e w' ⟨rfl, hb⟩; have HB := Lib.hid hb; clear hb)
  go_ret
  exact ⟨rfl, HB.out⟩

end Go.Proofs.YthjjcmmonjajhaaGreatDoor.C
namespace Go.Proofs.YthjjcmmonjajhaaGreatDoor.C
open Go.RowKit Go.Sort
set_option linter.unusedVariables false

theorem infoB : ∃ j, Tryz.prog.info? 84 = some j ∧ j.size = 2 := by
  obtain ⟨j, h1, h2⟩ := Option.map_eq_some_iff.1 (show (Tryz.prog.info? 84).map (·.size) = some 2 by kernel_rfl)
  exact ⟨j, h1, h2⟩

set_option maxHeartbeats 1000000 in
set_option maxRecDepth 1000000 in
theorem copy_used (b : Nat) (w : World) (h0 : w.cell? ⟨b, 0, none⟩ = some (.pointer (some ⟨b, 0, none⟩))) :
    Calls Tryz.prog 48 #[.pointer (some ⟨b, 0, none⟩)] w fun e w' => e = .returned (.tuple #[]) ∧ w' = w := by
  obtain ⟨j, hj, _⟩ := infoB
  go_enter Tryz.func48, Tryz.ntmps48
  go_wp2
  rw [Lib.run_neq_ptr_same w _ Tryz.underlying81 hj]
  go_wp2
  go_end0
  exact ⟨rfl, rfl⟩

set_option maxHeartbeats 1000000 in
set_option maxRecDepth 1000000 in
theorem copy_fresh (b : Nat) (w : World) (h0 : w.cell? ⟨b, 0, none⟩ = some (.pointer none)) (hsh : w.shape? b = some (84, 2)) (hfz : w.frozen? ⟨b, 0, none⟩ = false) :
    Calls Tryz.prog 48 #[.pointer (some ⟨b, 0, none⟩)] w fun e w' => e = .returned (.tuple #[]) ∧ w' = w.setCell ⟨b, 0, none⟩ (.pointer (some ⟨b, 0, none⟩)) := by
  obtain ⟨j, hj, hjs⟩ := infoB
  go_enter Tryz.func48, Tryz.ntmps48
  go_wp2
  rw [Lib.run_to_unsafe w ⟨b, 0, none⟩ Tryz.underlying81 Tryz.underlying146 hj (by rw [hjs]; decide) hsh (Nat.zero_lt_succ 1)]
  simp only [Result.andThen]
  rw [Oper.upon_value]
  go_wp2
  rw [run_callFunc_extern Tryz.func75 (by kernel_rfl) (by kernel_rfl) (by kernel_rfl) (e := Extern.AbiNoEscape.same) (by kernel_rfl)]
  rw [Lib.run_noEscape]
  simp only [Result.andThen]
  rw [Oper.upon_value]
  go_wp2
  rw [Lib.run_from_unsafe w ⟨b, 0, none⟩ Tryz.underlying146 Tryz.underlying81 hj hsh (by kernel_rfl)]
  simp only [Result.andThen]
  rw [Oper.upon_value]
  go_wp2
  go_end0
  exact ⟨rfl, rfl⟩

theorem copy_r (B b : Nat) (bs : List Value) (w : World) (h : Lib.IsBuilder 84 5 B b bs w) :
    Calls Tryz.prog 48 #[.pointer (some ⟨b, 0, none⟩)] w fun e w' => e = .returned (.tuple #[]) ∧ (Lib.BuilderAt 84 5 B b (.pointer (some ⟨b, 0, none⟩)) bs w' ∧ Below B w w') := by
  rcases h with h | h
  · refine (copy_fresh b w h.cell0 h.shape h.frozen0).mono ?_
    rintro e w' ⟨rfl, rfl⟩
    exact ⟨rfl, h.used _, (Below.refl B w).setCell (p := ⟨b, 0, none⟩) h.1 _⟩
  · refine (copy_used b w h.cell0).mono ?_
    rintro e w' ⟨rfl, rfl⟩
    exact ⟨rfl, h, Below.refl B _⟩

set_option maxHeartbeats 1000000 in
set_option maxRecDepth 1000000 in
theorem write_r (B b : Nat) (bs : List Value) (s : ByteArray) (w : World) (h : Lib.IsBuilder 84 5 B b bs w) (hlen : bs.length + s.size ≤ 140737488355328) (hBw : B ≤ w.heap.size) :
    Calls Tryz.prog 22 #[.pointer (some ⟨b, 0, none⟩), .string s] w fun e w' => e = .returned (.tuple #[.int .i64 s.size, .nilIface]) ∧ (Lib.BuilderAt 84 5 B b (.pointer (some ⟨b, 0, none⟩)) (bs ++ Lib.strCells s) w' ∧ Below B w w') := by
  obtain ⟨i0, hi, hz0, hz1, hz2⟩ := info_parts (show (Tryz.prog.info? 5).map (fun i => (i.zero, i.size, i.bytes)) = some (some (.int .u8 0), 1, 1) by kernel_rfl)
  go_enter Tryz.func22, Tryz.ntmps22
  go_wp2_with (go_at_call 48; refine (copy_r B b bs _ h).mono ?_)
  rintro e w1 ⟨rfl, h1, hb1⟩
  obtain ⟨hB, v, hbk, hown, hne⟩ := h1
  have c0 : w1.cell? ⟨b, 0, none⟩ = some (.pointer (some ⟨b, 0, none⟩)) := by rw [Lib.cell_of_heap hbk]; rfl
  have c1 : w1.cell? ⟨b, 1, none⟩ = some v := by rw [Lib.cell_of_heap hbk]; rfl
  go_wp2_with (at_builtin; refine Lib.wpList_append_own_string _ rfl _ _ 82 9 rfl B 5 i0 Tryz.underlying82 Tryz.underlying9 hi hz0 hz1 hz2 _ _ _ rfl hown s rfl ?c3 ?c4 ?c5 ?_)
  case c3 => unfold maxLen; omega
  case c4 => omega
  case c5 => have := hb1.size; omega
  intro v' w2 hown' hgrow _
  have hlt : b < w1.heap.size := by
    rcases Nat.lt_or_ge b w1.heap.size with h' | h'
    · exact h'
    · simp [Array.getElem?_eq_none h'] at hbk
  have hb2 : w2.heap[b]? = some (.cells #[.pointer (some ⟨b, 0, none⟩), v] 84 (0, 0)) := by
    rw [hgrow.block b hlt (fun e => hne e.symm)]
    exact hbk
  have d0 : w2.cell? ⟨b, 0, none⟩ = some (.pointer (some ⟨b, 0, none⟩)) := by rw [Lib.cell_of_heap hb2]; rfl
  have d1 : w2.cell? ⟨b, 1, none⟩ = some v := by rw [Lib.cell_of_heap hb2]; rfl
  have f1 : w2.frozen? ⟨b, 1, none⟩ = false := Lib.frozen_of_heap hb2 1
  obtain ⟨ao, n', cap, rfl⟩ : ∃ ao n' cap, v' = .slice ao n' cap := by
    rcases hown'.2 with ⟨hv, _⟩ | ⟨g, cap, cur, hv, _⟩
    · exact ⟨_, _, _, hv⟩
    · exact ⟨_, _, _, hv⟩
  go_wp2
  go_ret2
  refine ⟨rfl, ?_, ?_⟩
  · exact Lib.BuilderAt.put (T := 84) (e := 5) hB hb2 (bs' := bs ++ Lib.strCells s) (by simpa [Lib.strCells_length] using hown') (by decide)
  · exact (hb1.grown hgrow (by have := hb1.size; omega) (fun k hk => (hown.lt k hk).1)).setCell (p := ⟨b, 1, none⟩) hB _
end Go.Proofs.YthjjcmmonjajhaaGreatDoor.C
namespace Go.Proofs.YthjjcmmonjajhaaGreatDoor.C
open Go.RowKit Go.Sort
set_option linter.unusedVariables false

def R (n : Int) : Prop := -9223372036854775808 ≤ n ∧ n ≤ 9223372036854775807
def txt (n : Int) : ByteArray := ⟨(Lib.itoa n).toArray⟩
theorem itoa_r (n : Int) (hn : R n) (s : ByteArray) (hs : txt n = s) (w : World) (ht : Tab w) :
    Calls Tryz.prog 49 #[.int .i64 n] w fun e w' => e = .returned (.string s) ∧ Below w.heap.size w w' := by
  subst hs
  refine (Tryz.strconv_Itoa n hn.1 hn.2 w ht.1).mono ?_
  rintro e w' ⟨rfl, k, os, rfl⟩
  exact ⟨rfl, Lib.below_grow _ _ (Nat.le_refl _) _ _⟩
theorem fmt_r (n : Int) (hn : R n) (s : ByteArray) (hs : txt n = s) (w : World) (ht : Tab w) :
    Calls Tryz.prog 52 #[.int .i64 n, .int .i64 10] w fun e w' => e = .returned (.string s) ∧ Below w.heap.size w w' := by
  subst hs
  refine (Tryz.strconv_FormatInt_10 n hn.1 hn.2 w ht.1).mono ?_
  rintro e w' ⟨rfl, k, os, rfl⟩
  exact ⟨rfl, Lib.below_grow _ _ (Nat.le_refl _) _ _⟩

theorem hb_drew {w0 w : World} (h : Hid (Below w0.heap.size w0 w)) : Hid (Below w0.heap.size w0 w.drew) := Below.drew h.out
theorem name_s (op : Int) (n : Nat) (hop : ix op = n) (s : ByteArray) (hs : nm n = s) (w : World) (ht : Tab w) :
    Calls Tryz.prog 50 #[.int .i64 op] w fun e w' => e = .returned (.string s) ∧ Below w.heap.size w w' := hs ▸ name_r op n hop w ht
/-- Below, through draws and new blocks. -/
theorem own_below {w w' : World} {B e size n : Nat} {v : Value} {xs : List Value} (h : w.ownsRow B e size v n xs) (hb : Below w.heap.size w w') : w'.ownsRow B e size v n xs := by
  obtain ⟨h1, h2 | ⟨g, cap, cur, h2, h3, h4, h5⟩⟩ := h
  · exact ⟨h1, .inl h2⟩
  · refine ⟨h1, .inr ⟨g, cap, cur, h2, h3, ?_, h5⟩⟩
    have hlt : g < w.heap.size := by
      rcases Nat.lt_or_ge g w.heap.size with h' | h'
      · exact h'
      · simp [Array.getElem?_eq_none h'] at h4
    rw [hb.block g hlt]; exact h4
theorem own_move {wx X : World} {B e size n : Nat} {v : Value} {xs : List Value} (h : Hid (wx.ownsRow B e size v n xs)) (hr : Hid (Below wx.heap.size wx X)) : X.ownsRow B e size v n xs := own_below h.out hr.out
theorem own_call {wx X w' : World} {B e size n : Nat} {v : Value} {xs : List Value} (h : Hid (wx.ownsRow B e size v n xs)) (hr : Hid (Below wx.heap.size wx X)) (hb : Below X.heap.size X w') : Hid (w'.ownsRow B e size v n xs) := own_below (own_move h hr) hb
theorem hb_grow {w0 X w2 : World} {e size n : Nat} {v : Value} {xs : List Value} (h : Hid (Below w0.heap.size w0 X)) (hown : X.ownsRow w0.heap.size e size v n xs) (hg : X.grownBy w2 v.ownBlock) : Hid (Below w0.heap.size w0 w2) :=
  h.out.grown hg h.out.size (fun k hk => (hown.lt k hk).1)
theorem own_shape {w : World} {B e size n : Nat} {v : Value} {xs : List Value} (h : w.ownsRow B e size v n xs) (h0 : 0 < n) : ∃ g cap, v = .slice (some ⟨g, 0, none⟩) n cap := by
  obtain ⟨h1, h2 | ⟨g, cap, cur, h2, h3, h4, h5⟩⟩ := h
  · omega
  · exact ⟨g, cap, h2⟩
theorem own_lit2 (w : World) (B : Nat) (hB : B ≤ w.heap.size) (s1 s2 : ByteArray) : (w.alloc (.cells #[.string s1, .string s2] 9)).ownsRow B 9 1 (.slice (some ⟨w.heap.size, 0, none⟩) 2 2) 2 ([s1, s2].map .string) :=
  World.ownsRow_lit w #[.string s1, .string s2] 2 hB (by unfold maxLen; omega) rfl
theorem join_r (B g n cap : Nat) (xs : List ByteArray) (w : World) (h : w.ownsRow B 9 1 (.slice (some ⟨g, 0, none⟩) n cap) n (xs.map .string)) (j : ByteArray) (hj : (⟨(Lib.join (xs.map (·.data.toList)) [32]).toArray⟩ : ByteArray) = j) (hl : j.size ≤ 1000) :
    Calls Tryz.prog 53 #[.slice (some ⟨g, 0, none⟩) n cap, .string ⟨#[32]⟩] w fun e w' => e = .returned (.string j) ∧ Below w.heap.size w w' := by
  have hl : (Lib.join (xs.map (·.data.toList)) [32]).length ≤ 1000 := by rw [← hj] at hl; simpa [ByteArray.size] using hl
  subst hj
  have hlen : xs.length = n := by have := h.1; simpa using this
  have hg : g < w.heap.size ∧ n ≤ cap ∧ cap ≤ maxLen := by
    obtain ⟨h1, ⟨h2, _⟩ | ⟨g', cap', cur, h2, h3, h4, h5, h6, _⟩⟩ := h
    · cases h2
    · cases h2
      refine ⟨?_, h5, h6⟩
      rcases Nat.lt_or_ge g w.heap.size with h' | h'
      · exact h'
      · simp [Array.getElem?_eq_none h'] at h4
  have hn : n ≤ 140737488355328 := by
    have hj : ∀ (l : List (List UInt8)) (sep : List UInt8), sep ≠ [] → l.length ≤ (Lib.join l sep).length + 1 := by
      intro l sep hs
      induction l with
      | nil => simp
      | cons a l ih =>
        cases l with
        | nil => simp
        | cons b l =>
          have e : Lib.join (a :: b :: l) sep = a ++ sep ++ Lib.join (b :: l) sep := by simp [Lib.join, List.intercalate]
          have : 0 < sep.length := List.length_pos_iff.mpr hs
          rw [e]; simp only [List.length_append, List.length_cons] at ih ⊢; omega
    have := hj (xs.map (·.data.toList)) [32] (by simp)
    simp only [List.length_map] at this
    omega
  subst hlen
  exact Tryz.strings_Join g 0 cap xs ⟨#[32]⟩ w (fun j x hx => by
    have hjl : j < xs.length := (List.getElem?_eq_some_iff.1 hx).1
    have := h.cellAt j (by omega)
    rw [Nat.zero_add, this]; simp [hx]) hg.1 hn hg.2.1 (by show _ ≤ _; have : (⟨#[32]⟩ : ByteArray).data.toList = [32] := rfl; rw [this]; omega)

def lineW (h : Int) (s1 s2 sa sn : ByteArray) : List ByteArray := [s1, s2] ++ (if h % 2 = 1 then [sa] else []) ++ (if h / 2 = 1 then [sn] else [])
def lineS (h : Int) (s1 s2 sa sn : ByteArray) : ByteArray := ⟨(Lib.join ((lineW h s1 s2 sa sn).map (·.data.toList)) [32]).toArray⟩ ++ ⟨#[10]⟩
theorem hs_cases (k : Nat) (hk : k < 26) : hs k = 0 ∨ hs k = 1 ∨ hs k = 2 ∨ hs k = 3 := by
  have key : ∀ i : Fin 26, hs i.val = 0 ∨ hs i.val = 1 ∨ hs i.val = 2 ∨ hs i.val = 3 := by decide +kernel
  exact key ⟨k, hk⟩

set_option maxHeartbeats 4000000 in
set_option maxRecDepth 1000000 in
theorem line_core (place op a n : Int) (hp : R place) (ha : R a) (hn : R n) (k : Nat) (hk : ix op = k) (s1 s2 sa sn s : ByteArray) (h1 : txt place = s1) (h2 : nm k = s2) (h3 : txt a = sa) (h4 : txt n = sn)
    (z1 : s1.size ≤ 30) (z2 : s2.size ≤ 30) (z3 : sa.size ≤ 30) (z4 : sn.size ≤ 30)
    (hh : Int) (e : hs k = hh) (x1 x2 : Int) (b1 : Go.bits .and .i64 hh 1 = x1) (b2 : Go.bits .and .i64 hh 2 = x2) (t1 t2 : Bool) (g1 : (x1 != 0) = t1) (g2 : (x2 != 0) = t2) (i1 : (hh % 2 = 1) ↔ t1 = true) (i2 : (hh / 2 = 1) ↔ t2 = true)
    (hS : lineS hh s1 s2 sa sn = s) (w : World) (ht : Tab w) :
    Calls Tryz.prog 23 #[.agg #[.int .i64 op, .int .i64 a, .int .i64 n], .int .i64 place] w fun e w' => e = .returned (.string s) ∧ Below w.heap.size w w' := by
  obtain ⟨i0, hi, hz0, hz1, hz2⟩ := info_parts (show (Tryz.prog.info? 9).map (fun i => (i.zero, i.size, i.bytes)) = some (some (.string ByteArray.empty), 1, 16) by kernel_rfl)
  have hfe : ∀ w : World, (Instr.field 120 (.agg #[.string (nm k), .int .i64 (tk k), .int .i64 (lv k), .int .i64 (mo k), .int .i64 (hs k)]) 4).run Tryz.prog w = .ok (.int .i64 hh) w := fun w => by rw [← e]; exact fld4 k w
  have HE := Lib.hid e
  have HK := Lib.hid hk
  have HP := Lib.hid hp
  have HA := Lib.hid ha
  have HN := Lib.hid hn
  have H1 := Lib.hid h1
  have H2 := Lib.hid h2
  have H3 := Lib.hid h3
  have H4 := Lib.hid h4
  have HS := Lib.hid hS
  have HI1 := Lib.hid i1
  have HI2 := Lib.hid i2
  have ZZ := Lib.hid (show s1.size ≤ 30 ∧ s2.size ≤ 30 ∧ sa.size ≤ 30 ∧ sn.size ≤ 30 from ⟨z1, z2, z3, z4⟩)
  have HI0 := Lib.hid (And.intro hi (And.intro hz0 (And.intro hz1 hz2)))
  clear hk hp h1 h2 h3 h4 ha hn hS e i1 i2 z1 z2 z3 z4 hi hz0 hz1 hz2
  go_enter Tryz.func23, Tryz.ntmps23
  go_upto_region 1 with fail
  obtain ⟨W1, hW1⟩ : ∃ W1, W1 = w.alloc (Obj.cells #[Value.int IntKind.i64 op, Value.int IntKind.i64 a, Value.int IntKind.i64 n] 46) := ⟨_, rfl⟩
  obtain ⟨b, hb⟩ : ∃ b, b = w.heap.size := ⟨_, rfl⟩
  rw [← hW1, ← hb]
  have hbl : b < W1.heap.size := by rw [hW1, hb]; show _ < (w.heap.push _).size; rw [Array.size_push]; omega
  have c0 : W1.cell? ⟨b, 0, none⟩ = some (.int .i64 op) := by rw [hW1, hb]; simp
  have c1 : W1.cell? ⟨b, 1, none⟩ = some (.int .i64 a) := by rw [hW1, hb]; simp
  have c2 : W1.cell? ⟨b, 2, none⟩ = some (.int .i64 n) := by rw [hW1, hb]; simp
  have HT : Hid (Tab W1) := by rw [hW1]; exact ht.below ((Below.refl _ _).alloc (Nat.le_refl _) _)
  have HW : Hid (Below w.heap.size w W1) := by rw [hW1]; exact (Below.refl _ _).alloc (Nat.le_refl _) _
  have HC := Lib.hid (show W1.cell? ⟨b, 0, none⟩ = some (.int .i64 op) ∧ W1.cell? ⟨b, 1, none⟩ = some (.int .i64 a) ∧ W1.cell? ⟨b, 2, none⟩ = some (.int .i64 n) ∧ b < W1.heap.size from ⟨c0, c1, c2, hbl⟩)
  have HB := hb_start W1
  clear hW1 hb ht
  go_cut [5] from 5 to 12 (fun v5 wx => Hid (Below W1.heap.size W1 wx) ∧ Hid (wx.ownsRow W1.heap.size 9 1 v5 2 ([s1, s2].map .string)))
  case first =>
    go_region_with (first | (go_at_call 49; refine (itoa_r _ HP.out _ H1.out _ (Tab.at HT (by repeat (first | exact HB | refine hb_drew ?_ | refine hb_alloc ?_ _)))).mono ?_; rintro e w' ⟨rfl, hb⟩; have HB2 : Hid (Below W1.heap.size W1 w') := hb_step (by repeat (first | exact HB | refine hb_drew ?_ | refine hb_alloc ?_ _)) hb; clear HB; have HB := HB2; clear HB2; clear hb; have c0' := (HB.out.cell (p := ⟨b, 0, none⟩) HC.out.2.2.2).trans HC.out.1) | (go_at_call 50; refine (name_s _ _ HK.out _ H2.out _ (Tab.at HT (by repeat (first | exact HB | refine hb_drew ?_ | refine hb_alloc ?_ _)))).mono ?_; rintro e w' ⟨rfl, hb⟩; have HB2 : Hid (Below W1.heap.size W1 w') := hb_step (by repeat (first | exact HB | refine hb_drew ?_ | refine hb_alloc ?_ _)) hb; clear HB; have HB := HB2; clear HB2; clear hb; have c0' := (HB.out.cell (p := ⟨b, 0, none⟩) HC.out.2.2.2).trans HC.out.1))
    all_goals (go_wp2_with fail; go_meet; exact ⟨(by repeat (first | exact HB | refine hb_drew ?_ | refine hb_alloc ?_ _)), own_lit2 _ _ HB.out.size _ _⟩)
  case rest =>
    obtain ⟨HB1, HO⟩ := hcut
    generalize u5 = v at *
    clear HB
    have HB := HB1
    clear HB1
    have c0' := (HB.out.cell (p := ⟨b, 0, none⟩) HC.out.2.2.2).trans HC.out.1
    have hbl' : b < wc.heap.size := Nat.lt_of_lt_of_le HC.out.2.2.2 HB.out.size
    clear c0 c1 c2
    obtain ⟨g, cap, rfl⟩ := own_shape HO.out (by omega)
    cases t1 <;> cases t2
    · have hfin := HS.out
      unfold lineS lineW at hfin
      rw [if_neg (fun h => Bool.false_ne_true (HI1.out.1 h))] at hfin
      rw [if_neg (fun h => Bool.false_ne_true (HI2.out.1 h))] at hfin
      obtain ⟨j, hj⟩ : ∃ j : ByteArray, (⟨(Lib.join (([s1, s2] : List ByteArray).map (·.data.toList)) [32]).toArray⟩ : ByteArray) = j := ⟨_, rfl⟩
      have hjz : j.size ≤ 200 := by
        have := ZZ.out
        rw [← hj]; show (List.toArray _).size ≤ 200
        simp [Lib.join, List.intercalate]; omega
      replace hfin : j ++ (⟨#[10]⟩ : ByteArray) = s := hj ▸ hfin
      have HJ := Lib.hid hj
      clear hj
      have HF := Lib.hid hfin
      clear hfin
      go_wp2_with (first | (go_at_call 51; refine (of_r _ _ HK.out _ (Tab.at HT (by repeat (first | exact HB | refine hb_drew ?_ | refine hb_alloc ?_ _)))).mono ?_; rintro e w' ⟨rfl, hb⟩; have HO2 := own_call HO (by repeat (first | exact hb_start _ | refine hb_drew ?_ | refine hb_alloc ?_ _)) hb; clear HO; have HO := HO2; clear HO2; have HB2 : Hid (Below W1.heap.size W1 w') := hb_step (by repeat (first | exact HB | refine hb_drew ?_ | refine hb_alloc ?_ _)) hb; clear HB; have HB := HB2; clear HB2; clear hb; have c0' := (HB.out.cell (p := ⟨b, 0, none⟩) HC.out.2.2.2).trans HC.out.1; have c1' := (HB.out.cell (p := ⟨b, 1, none⟩) HC.out.2.2.2).trans HC.out.2.1; have c2' := (HB.out.cell (p := ⟨b, 2, none⟩) HC.out.2.2.2).trans HC.out.2.2.1; have hbl' : b < w'.heap.size := Nat.lt_of_lt_of_le HC.out.2.2.2 HB.out.size) | (go_at_call 53; refine (join_r W1.heap.size _ _ _ [s1, s2] _ (own_move HO (by repeat (first | exact hb_start _ | refine hb_drew ?_ | refine hb_alloc ?_ _))) j HJ.out (by omega)).mono ?_; rintro e w' ⟨rfl, hb⟩; have HB2 : Hid (Below W1.heap.size W1 w') := hb_step (by repeat (first | exact HB | refine hb_drew ?_ | refine hb_alloc ?_ _)) hb; clear HB; have HB := HB2; clear HB2; clear hb))
      go_ret
      exact ⟨congrArg (fun x => Ending.returned (Value.string x)) HF.out, Below.trans HW.out (HB.out.mono HW.out.size)⟩
    · have hfin := HS.out
      unfold lineS lineW at hfin
      rw [if_neg (fun h => Bool.false_ne_true (HI1.out.1 h))] at hfin
      rw [if_pos (HI2.out.2 rfl)] at hfin
      obtain ⟨j, hj⟩ : ∃ j : ByteArray, (⟨(Lib.join (([s1, s2, sn] : List ByteArray).map (·.data.toList)) [32]).toArray⟩ : ByteArray) = j := ⟨_, rfl⟩
      have hjz : j.size ≤ 200 := by
        have := ZZ.out
        rw [← hj]; show (List.toArray _).size ≤ 200
        simp [Lib.join, List.intercalate]; omega
      replace hfin : j ++ (⟨#[10]⟩ : ByteArray) = s := hj ▸ hfin
      have HJ := Lib.hid hj
      clear hj
      have HF := Lib.hid hfin
      clear hfin
      go_wp2_with (first | (go_at_call 51; refine (of_r _ _ HK.out _ (Tab.at HT (by repeat (first | exact HB | refine hb_drew ?_ | refine hb_alloc ?_ _)))).mono ?_; rintro e w' ⟨rfl, hb⟩; have HO2 := own_call HO (by repeat (first | exact hb_start _ | refine hb_drew ?_ | refine hb_alloc ?_ _)) hb; clear HO; have HO := HO2; clear HO2; have HB2 : Hid (Below W1.heap.size W1 w') := hb_step (by repeat (first | exact HB | refine hb_drew ?_ | refine hb_alloc ?_ _)) hb; clear HB; have HB := HB2; clear HB2; clear hb; have c0' := (HB.out.cell (p := ⟨b, 0, none⟩) HC.out.2.2.2).trans HC.out.1; have c1' := (HB.out.cell (p := ⟨b, 1, none⟩) HC.out.2.2.2).trans HC.out.2.1; have c2' := (HB.out.cell (p := ⟨b, 2, none⟩) HC.out.2.2.2).trans HC.out.2.2.1; have hbl' : b < w'.heap.size := Nat.lt_of_lt_of_le HC.out.2.2.2 HB.out.size) | (go_at_call 52; refine (fmt_r _ HN.out _ H4.out _ (Tab.at HT (by repeat (first | exact HB | refine hb_drew ?_ | refine hb_alloc ?_ _)))).mono ?_; rintro e w' ⟨rfl, hb⟩; have HO2 := own_call HO (by repeat (first | exact hb_start _ | refine hb_drew ?_ | refine hb_alloc ?_ _)) hb; clear HO; have HO := HO2; clear HO2; have HB2 : Hid (Below W1.heap.size W1 w') := hb_step (by repeat (first | exact HB | refine hb_drew ?_ | refine hb_alloc ?_ _)) hb; clear HB; have HB := HB2; clear HB2; clear hb; have c0' := (HB.out.cell (p := ⟨b, 0, none⟩) HC.out.2.2.2).trans HC.out.1; have c1' := (HB.out.cell (p := ⟨b, 1, none⟩) HC.out.2.2.2).trans HC.out.2.1; have c2' := (HB.out.cell (p := ⟨b, 2, none⟩) HC.out.2.2.2).trans HC.out.2.2.1; have hbl' : b < w'.heap.size := Nat.lt_of_lt_of_le HC.out.2.2.2 HB.out.size) | (at_builtin; refine wpList_append_own _ rfl _ _ 59 rfl W1.heap.size 9 i0 (.string ByteArray.empty) 1 16 Tryz.underlying59 HI0.out.1 HI0.out.2.1 HI0.out.2.2.1 HI0.out.2.2.2 rfl (by decide) _ _ _ rfl (own_move HO (by repeat (first | exact hb_start _ | refine hb_drew ?_ | refine hb_alloc ?_ _))) _ 1 1 [.string sn] rfl rfl (cell_one_new _ _ _) (fun x hx => by simp at hx; subst hx; rfl) (by unfold maxLen; omega) (by omega) (show Hid (Below W1.heap.size W1 _) from by repeat (first | exact HB | refine hb_drew ?_ | refine hb_alloc ?_ _)).out.size ?_; intro v' w2 hown' hgrow _; have HB2 := hb_grow (by repeat (first | exact HB | refine hb_drew ?_ | refine hb_alloc ?_ _)) (own_move HO (by repeat (first | exact hb_start _ | refine hb_drew ?_ | refine hb_alloc ?_ _))) hgrow; clear HB; have HB := HB2; clear HB2; clear HO; have HO := Lib.hid hown'; clear hgrow; obtain ⟨g', cap', rfl⟩ := own_shape hown' (by omega); clear hown'; have c0' := (HB.out.cell (p := ⟨b, 0, none⟩) HC.out.2.2.2).trans HC.out.1; have c1' := (HB.out.cell (p := ⟨b, 1, none⟩) HC.out.2.2.2).trans HC.out.2.1; have c2' := (HB.out.cell (p := ⟨b, 2, none⟩) HC.out.2.2.2).trans HC.out.2.2.1; have hbl' : b < w2.heap.size := Nat.lt_of_lt_of_le HC.out.2.2.2 HB.out.size) | (go_at_call 53; refine (join_r W1.heap.size _ _ _ [s1, s2, sn] _ (own_move HO (by repeat (first | exact hb_start _ | refine hb_drew ?_ | refine hb_alloc ?_ _))) j HJ.out (by omega)).mono ?_; rintro e w' ⟨rfl, hb⟩; have HB2 : Hid (Below W1.heap.size W1 w') := hb_step (by repeat (first | exact HB | refine hb_drew ?_ | refine hb_alloc ?_ _)) hb; clear HB; have HB := HB2; clear HB2; clear hb))
      go_ret
      exact ⟨congrArg (fun x => Ending.returned (Value.string x)) HF.out, Below.trans HW.out (HB.out.mono HW.out.size)⟩
    · have hfin := HS.out
      unfold lineS lineW at hfin
      rw [if_pos (HI1.out.2 rfl)] at hfin
      rw [if_neg (fun h => Bool.false_ne_true (HI2.out.1 h))] at hfin
      obtain ⟨j, hj⟩ : ∃ j : ByteArray, (⟨(Lib.join (([s1, s2, sa] : List ByteArray).map (·.data.toList)) [32]).toArray⟩ : ByteArray) = j := ⟨_, rfl⟩
      have hjz : j.size ≤ 200 := by
        have := ZZ.out
        rw [← hj]; show (List.toArray _).size ≤ 200
        simp [Lib.join, List.intercalate]; omega
      replace hfin : j ++ (⟨#[10]⟩ : ByteArray) = s := hj ▸ hfin
      have HJ := Lib.hid hj
      clear hj
      have HF := Lib.hid hfin
      clear hfin
      go_wp2_with (first | (go_at_call 51; refine (of_r _ _ HK.out _ (Tab.at HT (by repeat (first | exact HB | refine hb_drew ?_ | refine hb_alloc ?_ _)))).mono ?_; rintro e w' ⟨rfl, hb⟩; have HO2 := own_call HO (by repeat (first | exact hb_start _ | refine hb_drew ?_ | refine hb_alloc ?_ _)) hb; clear HO; have HO := HO2; clear HO2; have HB2 : Hid (Below W1.heap.size W1 w') := hb_step (by repeat (first | exact HB | refine hb_drew ?_ | refine hb_alloc ?_ _)) hb; clear HB; have HB := HB2; clear HB2; clear hb; have c0' := (HB.out.cell (p := ⟨b, 0, none⟩) HC.out.2.2.2).trans HC.out.1; have c1' := (HB.out.cell (p := ⟨b, 1, none⟩) HC.out.2.2.2).trans HC.out.2.1; have c2' := (HB.out.cell (p := ⟨b, 2, none⟩) HC.out.2.2.2).trans HC.out.2.2.1; have hbl' : b < w'.heap.size := Nat.lt_of_lt_of_le HC.out.2.2.2 HB.out.size) | (go_at_call 49; refine (itoa_r _ HA.out _ H3.out _ (Tab.at HT (by repeat (first | exact HB | refine hb_drew ?_ | refine hb_alloc ?_ _)))).mono ?_; rintro e w' ⟨rfl, hb⟩; have HO2 := own_call HO (by repeat (first | exact hb_start _ | refine hb_drew ?_ | refine hb_alloc ?_ _)) hb; clear HO; have HO := HO2; clear HO2; have HB2 : Hid (Below W1.heap.size W1 w') := hb_step (by repeat (first | exact HB | refine hb_drew ?_ | refine hb_alloc ?_ _)) hb; clear HB; have HB := HB2; clear HB2; clear hb; have c0' := (HB.out.cell (p := ⟨b, 0, none⟩) HC.out.2.2.2).trans HC.out.1; have c1' := (HB.out.cell (p := ⟨b, 1, none⟩) HC.out.2.2.2).trans HC.out.2.1; have c2' := (HB.out.cell (p := ⟨b, 2, none⟩) HC.out.2.2.2).trans HC.out.2.2.1; have hbl' : b < w'.heap.size := Nat.lt_of_lt_of_le HC.out.2.2.2 HB.out.size) | (at_builtin; refine wpList_append_own _ rfl _ _ 59 rfl W1.heap.size 9 i0 (.string ByteArray.empty) 1 16 Tryz.underlying59 HI0.out.1 HI0.out.2.1 HI0.out.2.2.1 HI0.out.2.2.2 rfl (by decide) _ _ _ rfl (own_move HO (by repeat (first | exact hb_start _ | refine hb_drew ?_ | refine hb_alloc ?_ _))) _ 1 1 [.string sa] rfl rfl (cell_one_new _ _ _) (fun x hx => by simp at hx; subst hx; rfl) (by unfold maxLen; omega) (by omega) (show Hid (Below W1.heap.size W1 _) from by repeat (first | exact HB | refine hb_drew ?_ | refine hb_alloc ?_ _)).out.size ?_; intro v' w2 hown' hgrow _; have HB2 := hb_grow (by repeat (first | exact HB | refine hb_drew ?_ | refine hb_alloc ?_ _)) (own_move HO (by repeat (first | exact hb_start _ | refine hb_drew ?_ | refine hb_alloc ?_ _))) hgrow; clear HB; have HB := HB2; clear HB2; clear HO; have HO := Lib.hid hown'; clear hgrow; obtain ⟨g', cap', rfl⟩ := own_shape hown' (by omega); clear hown'; have c0' := (HB.out.cell (p := ⟨b, 0, none⟩) HC.out.2.2.2).trans HC.out.1; have c1' := (HB.out.cell (p := ⟨b, 1, none⟩) HC.out.2.2.2).trans HC.out.2.1; have c2' := (HB.out.cell (p := ⟨b, 2, none⟩) HC.out.2.2.2).trans HC.out.2.2.1; have hbl' : b < w2.heap.size := Nat.lt_of_lt_of_le HC.out.2.2.2 HB.out.size) | (go_at_call 53; refine (join_r W1.heap.size _ _ _ [s1, s2, sa] _ (own_move HO (by repeat (first | exact hb_start _ | refine hb_drew ?_ | refine hb_alloc ?_ _))) j HJ.out (by omega)).mono ?_; rintro e w' ⟨rfl, hb⟩; have HB2 : Hid (Below W1.heap.size W1 w') := hb_step (by repeat (first | exact HB | refine hb_drew ?_ | refine hb_alloc ?_ _)) hb; clear HB; have HB := HB2; clear HB2; clear hb))
      go_ret
      exact ⟨congrArg (fun x => Ending.returned (Value.string x)) HF.out, Below.trans HW.out (HB.out.mono HW.out.size)⟩
    · have hfin := HS.out
      unfold lineS lineW at hfin
      rw [if_pos (HI1.out.2 rfl)] at hfin
      rw [if_pos (HI2.out.2 rfl)] at hfin
      obtain ⟨j, hj⟩ : ∃ j : ByteArray, (⟨(Lib.join (([s1, s2, sa, sn] : List ByteArray).map (·.data.toList)) [32]).toArray⟩ : ByteArray) = j := ⟨_, rfl⟩
      have hjz : j.size ≤ 200 := by
        have := ZZ.out
        rw [← hj]; show (List.toArray _).size ≤ 200
        simp [Lib.join, List.intercalate]; omega
      replace hfin : j ++ (⟨#[10]⟩ : ByteArray) = s := hj ▸ hfin
      have HJ := Lib.hid hj
      clear hj
      have HF := Lib.hid hfin
      clear hfin
      go_wp2_with (first | (go_at_call 51; refine (of_r _ _ HK.out _ (Tab.at HT (by repeat (first | exact HB | refine hb_drew ?_ | refine hb_alloc ?_ _)))).mono ?_; rintro e w' ⟨rfl, hb⟩; have HO2 := own_call HO (by repeat (first | exact hb_start _ | refine hb_drew ?_ | refine hb_alloc ?_ _)) hb; clear HO; have HO := HO2; clear HO2; have HB2 : Hid (Below W1.heap.size W1 w') := hb_step (by repeat (first | exact HB | refine hb_drew ?_ | refine hb_alloc ?_ _)) hb; clear HB; have HB := HB2; clear HB2; clear hb; have c0' := (HB.out.cell (p := ⟨b, 0, none⟩) HC.out.2.2.2).trans HC.out.1; have c1' := (HB.out.cell (p := ⟨b, 1, none⟩) HC.out.2.2.2).trans HC.out.2.1; have c2' := (HB.out.cell (p := ⟨b, 2, none⟩) HC.out.2.2.2).trans HC.out.2.2.1; have hbl' : b < w'.heap.size := Nat.lt_of_lt_of_le HC.out.2.2.2 HB.out.size) | (go_at_call 49; refine (itoa_r _ HA.out _ H3.out _ (Tab.at HT (by repeat (first | exact HB | refine hb_drew ?_ | refine hb_alloc ?_ _)))).mono ?_; rintro e w' ⟨rfl, hb⟩; have HO2 := own_call HO (by repeat (first | exact hb_start _ | refine hb_drew ?_ | refine hb_alloc ?_ _)) hb; clear HO; have HO := HO2; clear HO2; have HB2 : Hid (Below W1.heap.size W1 w') := hb_step (by repeat (first | exact HB | refine hb_drew ?_ | refine hb_alloc ?_ _)) hb; clear HB; have HB := HB2; clear HB2; clear hb; have c0' := (HB.out.cell (p := ⟨b, 0, none⟩) HC.out.2.2.2).trans HC.out.1; have c1' := (HB.out.cell (p := ⟨b, 1, none⟩) HC.out.2.2.2).trans HC.out.2.1; have c2' := (HB.out.cell (p := ⟨b, 2, none⟩) HC.out.2.2.2).trans HC.out.2.2.1; have hbl' : b < w'.heap.size := Nat.lt_of_lt_of_le HC.out.2.2.2 HB.out.size) | (go_at_call 52; refine (fmt_r _ HN.out _ H4.out _ (Tab.at HT (by repeat (first | exact HB | refine hb_drew ?_ | refine hb_alloc ?_ _)))).mono ?_; rintro e w' ⟨rfl, hb⟩; have HO2 := own_call HO (by repeat (first | exact hb_start _ | refine hb_drew ?_ | refine hb_alloc ?_ _)) hb; clear HO; have HO := HO2; clear HO2; have HB2 : Hid (Below W1.heap.size W1 w') := hb_step (by repeat (first | exact HB | refine hb_drew ?_ | refine hb_alloc ?_ _)) hb; clear HB; have HB := HB2; clear HB2; clear hb; have c0' := (HB.out.cell (p := ⟨b, 0, none⟩) HC.out.2.2.2).trans HC.out.1; have c1' := (HB.out.cell (p := ⟨b, 1, none⟩) HC.out.2.2.2).trans HC.out.2.1; have c2' := (HB.out.cell (p := ⟨b, 2, none⟩) HC.out.2.2.2).trans HC.out.2.2.1; have hbl' : b < w'.heap.size := Nat.lt_of_lt_of_le HC.out.2.2.2 HB.out.size) | (at_builtin; refine wpList_append_own _ rfl _ _ 59 rfl W1.heap.size 9 i0 (.string ByteArray.empty) 1 16 Tryz.underlying59 HI0.out.1 HI0.out.2.1 HI0.out.2.2.1 HI0.out.2.2.2 rfl (by decide) _ _ _ rfl (own_move HO (by repeat (first | exact hb_start _ | refine hb_drew ?_ | refine hb_alloc ?_ _))) _ 1 1 [.string sa] rfl rfl (cell_one_new _ _ _) (fun x hx => by simp at hx; subst hx; rfl) (by unfold maxLen; omega) (by omega) (show Hid (Below W1.heap.size W1 _) from by repeat (first | exact HB | refine hb_drew ?_ | refine hb_alloc ?_ _)).out.size ?_; intro v' w2 hown' hgrow _; have HB2 := hb_grow (by repeat (first | exact HB | refine hb_drew ?_ | refine hb_alloc ?_ _)) (own_move HO (by repeat (first | exact hb_start _ | refine hb_drew ?_ | refine hb_alloc ?_ _))) hgrow; clear HB; have HB := HB2; clear HB2; clear HO; have HO := Lib.hid hown'; clear hgrow; obtain ⟨g', cap', rfl⟩ := own_shape hown' (by omega); clear hown'; have c0' := (HB.out.cell (p := ⟨b, 0, none⟩) HC.out.2.2.2).trans HC.out.1; have c1' := (HB.out.cell (p := ⟨b, 1, none⟩) HC.out.2.2.2).trans HC.out.2.1; have c2' := (HB.out.cell (p := ⟨b, 2, none⟩) HC.out.2.2.2).trans HC.out.2.2.1; have hbl' : b < w2.heap.size := Nat.lt_of_lt_of_le HC.out.2.2.2 HB.out.size) | (at_builtin; refine wpList_append_own _ rfl _ _ 59 rfl W1.heap.size 9 i0 (.string ByteArray.empty) 1 16 Tryz.underlying59 HI0.out.1 HI0.out.2.1 HI0.out.2.2.1 HI0.out.2.2.2 rfl (by decide) _ _ _ rfl (own_move HO (by repeat (first | exact hb_start _ | refine hb_drew ?_ | refine hb_alloc ?_ _))) _ 1 1 [.string sn] rfl rfl (cell_one_new _ _ _) (fun x hx => by simp at hx; subst hx; rfl) (by unfold maxLen; omega) (by omega) (show Hid (Below W1.heap.size W1 _) from by repeat (first | exact HB | refine hb_drew ?_ | refine hb_alloc ?_ _)).out.size ?_; intro v' w2 hown' hgrow _; have HB2 := hb_grow (by repeat (first | exact HB | refine hb_drew ?_ | refine hb_alloc ?_ _)) (own_move HO (by repeat (first | exact hb_start _ | refine hb_drew ?_ | refine hb_alloc ?_ _))) hgrow; clear HB; have HB := HB2; clear HB2; clear HO; have HO := Lib.hid hown'; clear hgrow; obtain ⟨g', cap', rfl⟩ := own_shape hown' (by omega); clear hown'; have c0' := (HB.out.cell (p := ⟨b, 0, none⟩) HC.out.2.2.2).trans HC.out.1; have c1' := (HB.out.cell (p := ⟨b, 1, none⟩) HC.out.2.2.2).trans HC.out.2.1; have c2' := (HB.out.cell (p := ⟨b, 2, none⟩) HC.out.2.2.2).trans HC.out.2.2.1; have hbl' : b < w2.heap.size := Nat.lt_of_lt_of_le HC.out.2.2.2 HB.out.size) | (go_at_call 53; refine (join_r W1.heap.size _ _ _ [s1, s2, sa, sn] _ (own_move HO (by repeat (first | exact hb_start _ | refine hb_drew ?_ | refine hb_alloc ?_ _))) j HJ.out (by omega)).mono ?_; rintro e w' ⟨rfl, hb⟩; have HB2 : Hid (Below W1.heap.size W1 w') := hb_step (by repeat (first | exact HB | refine hb_drew ?_ | refine hb_alloc ?_ _)) hb; clear HB; have HB := HB2; clear HB2; clear hb))
      go_ret
      exact ⟨congrArg (fun x => Ending.returned (Value.string x)) HF.out, Below.trans HW.out (HB.out.mono HW.out.size)⟩
end Go.Proofs.YthjjcmmonjajhaaGreatDoor.C
namespace Go.Proofs.YthjjcmmonjajhaaGreatDoor.C
open Go.RowKit Go.Sort
set_option linter.unusedVariables false
set_option linter.unusedSimpArgs false

def codeLine (place op a n : Int) : ByteArray := lineS (hs (ix op)) (txt place) (nm (ix op)) (txt a) (txt n)
theorem txt_size (n : Int) (h : R n) : (txt n).size ≤ 30 := by
  have := Lib.itoa_length_le n h.1 h.2
  show (Lib.itoa n).toArray.size ≤ 30
  simp only [List.size_toArray]; omega
theorem nm_size (k : Nat) (hk : k < 26) : (nm k).size ≤ 6 := by
  have key : ∀ i : Fin 26, (nm i.val).size ≤ 6 := by decide +kernel
  exact key ⟨k, hk⟩
theorem line_r (place op a n : Int) (hp : R place) (ha : R a) (hn : R n) (s : ByteArray) (hS : codeLine place op a n = s) (w : World) (ht : Tab w) :
    Calls Tryz.prog 23 #[.agg #[.int .i64 op, .int .i64 a, .int .i64 n], .int .i64 place] w fun e w' => e = .returned (.string s) ∧ Below w.heap.size w w' := by
  have hx := ix_lt op
  have z2 := nm_size (ix op) hx
  rcases hs_cases (ix op) hx with e | e | e | e <;> (unfold codeLine at hS; rw [e] at hS)
  · exact line_core place op a n hp ha hn _ rfl _ _ _ _ s rfl rfl rfl rfl (txt_size _ hp) (by omega) (txt_size _ ha) (txt_size _ hn) 0 e 0 0 rfl rfl false false rfl rfl (by decide) (by decide) hS w ht
  · exact line_core place op a n hp ha hn _ rfl _ _ _ _ s rfl rfl rfl rfl (txt_size _ hp) (by omega) (txt_size _ ha) (txt_size _ hn) 1 e 1 0 rfl rfl true false rfl rfl (by decide) (by decide) hS w ht
  · exact line_core place op a n hp ha hn _ rfl _ _ _ _ s rfl rfl rfl rfl (txt_size _ hp) (by omega) (txt_size _ ha) (txt_size _ hn) 2 e 0 2 rfl rfl false true rfl rfl (by decide) (by decide) hS w ht
  · exact line_core place op a n hp ha hn _ rfl _ _ _ _ s rfl rfl rfl rfl (txt_size _ hp) (by omega) (txt_size _ ha) (txt_size _ hn) 3 e 1 2 rfl rfl true true rfl rfl (by decide) (by decide) hS w ht

theorem line_size (place op a n : Int) (hp : R place) (ha : R a) (hn : R n) : (codeLine place op a n).size ≤ 200 := by
  have hx := ix_lt op
  have z2 := nm_size (ix op) hx
  have z1 := txt_size _ hp
  have z3 := txt_size _ ha
  have z4 := txt_size _ hn
  unfold codeLine lineS lineW
  rw [ByteArray.size_append]
  have : (⟨#[10]⟩ : ByteArray).size = 1 := rfl
  rw [this]
  have : ∀ l : List UInt8, (⟨l.toArray⟩ : ByteArray).size = l.length := fun l => by show l.toArray.size = _; simp
  rw [this]
  split <;> split <;> (simp [Lib.join, List.intercalate]; omega)

end Go.Proofs.YthjjcmmonjajhaaGreatDoor.C
namespace Go.Proofs.YthjjcmmonjajhaaGreatDoor.C
open Go.RowKit Go.Sort
set_option linter.unusedVariables false

abbrev Ins3 := Int × Int × Int
def insAt (l : List Ins3) (i : Nat) : Ins3 := l.getD i (0, 0, 0)
/-- The lines of the first k. -/
def lines (l : List Ins3) (k : Nat) : List UInt8 := (List.range k).flatMap fun (i : Nat) => (codeLine i (insAt l i).1 (insAt l i).2.1 (insAt l i).2.2).data.toList
theorem lines_next (l : List Ins3) (k : Nat) : lines l (k + 1) = lines l k ++ (codeLine k (insAt l k).1 (insAt l k).2.1 (insAt l k).2.2).data.toList := by
  unfold lines; rw [List.range_succ, List.flatMap_append]; simp
def InsR (l : List Ins3) : Prop := ∀ x ∈ l, R x.1 ∧ R x.2.1 ∧ R x.2.2
theorem insAt_r (l : List Ins3) (h : InsR l) (i : Nat) : R (insAt l i).1 ∧ R (insAt l i).2.1 ∧ R (insAt l i).2.2 := by
  unfold insAt
  by_cases hi : i < l.length
  · rw [List.getD_eq_getElem?_getD, List.getElem?_eq_getElem hi]; exact h _ (List.getElem_mem _)
  · rw [List.getD_eq_getElem?_getD, List.getElem?_eq_none (by omega)]; simp [R]
theorem lines_size (l : List Ins3) (h : InsR l) (k : Nat) (hk : k ≤ 5000000) : (lines l k).length ≤ 200 * k := by
  induction k with
  | zero => simp [lines]
  | succ k ih =>
    have h1 := insAt_r l h k
    have h2 := line_size (k : Int) (insAt l k).1 _ _ (by unfold R; omega) h1.2.1 h1.2.2
    have h3 : ∀ b : ByteArray, b.data.toList.length = b.size := fun b => by cases b; rfl
    rw [lines_next, List.length_append, h3]
    have := ih (by omega)
    omega

/-- Instructions in a row of cells. -/
def InsIn (w : World) (b off : Nat) (l : List Ins3) : Prop :=
  b < w.heap.size ∧ ∀ i, i < l.length → w.cell? ⟨b, off + i * 3, none⟩ = some (.int .i64 (insAt l i).1) ∧ w.cell? ⟨b, off + i * 3 + 1, none⟩ = some (.int .i64 (insAt l i).2.1) ∧ w.cell? ⟨b, off + i * 3 + 2, none⟩ = some (.int .i64 (insAt l i).2.2)
theorem InsIn.below {w w' : World} {b off : Nat} {l : List Ins3} (h : InsIn w b off l) (hb : Below w.heap.size w w') : InsIn w' b off l :=
  ⟨Nat.lt_of_lt_of_le h.1 hb.size, fun i hi => ⟨(hb.cell h.1).trans (h.2 i hi).1, (hb.cell h.1).trans (h.2 i hi).2.1, (hb.cell h.1).trans (h.2 i hi).2.2⟩⟩

theorem lt_of_heap {w : World} {b : Nat} {o : Obj} (h : w.heap[b]? = some o) : b < w.heap.size := (Array.getElem?_eq_some_iff.1 h).1
theorem isb_alloc {w : World} {B b : Nat} {bs : List Value} (h : Hid (Lib.IsBuilder 84 5 B b bs w)) (o : Obj) : Hid (Lib.IsBuilder 84 5 B b bs (w.alloc o)) := by
  rcases h with ⟨h1, v, h2, h3, h4⟩ | ⟨h1, v, h2, h3, h4⟩
  · refine .inl ⟨h1, v, ?_, h3.alloc o, h4⟩
    rw [heap_alloc_old _ _ (lt_of_heap h2)]; exact h2
  · refine .inr ⟨h1, v, ?_, h3.alloc o, h4⟩
    rw [heap_alloc_old _ _ (lt_of_heap h2)]; exact h2
theorem isb_below {w w' : World} {B b : Nat} {bs : List Value} (h : Hid (Lib.IsBuilder 84 5 B b bs w)) (hb : Below w.heap.size w w') : Hid (Lib.IsBuilder 84 5 B b bs w') := by
  rcases h with ⟨h1, v, h2, h3, h4⟩ | ⟨h1, v, h2, h3, h4⟩
  · refine .inl ⟨h1, v, ?_, own_below h3 hb, h4⟩
    rw [hb.block b (lt_of_heap h2)]; exact h2
  · refine .inr ⟨h1, v, ?_, own_below h3 hb, h4⟩
    rw [hb.block b (lt_of_heap h2)]; exact h2
theorem isb_new (w : World) : Hid (Lib.IsBuilder 84 5 w.heap.size w.heap.size (Lib.byteCells []) (w.alloc (.cells #[.pointer none, .slice none 0 0] 84))) :=
  .inl ⟨Nat.le_refl _, .slice none 0 0, heap_alloc_new _ _, World.ownsRow_nil _ _ _ _, by simp [Value.ownBlock]⟩
theorem hb_w {w0 X w' : World} (h : Hid (Below w0.heap.size w0 X)) (h' : Below w0.heap.size X w') : Hid (Below w0.heap.size w0 w') := Below.trans h.out h'

set_option maxHeartbeats 4000000 in
set_option maxRecDepth 1000000 in
theorem text_r (b off cap : Nat) (l : List Ins3) (hl : l.length ≤ 5000000) (hr : InsR l) (hc : l.length ≤ cap) (s : ByteArray) (hs : (⟨(lines l l.length).toArray⟩ : ByteArray) = s) (w : World) (hi : InsIn w b off l) (ht : Tab w) :
    Calls Tryz.prog 10 #[.slice (some ⟨b, off, none⟩) l.length cap] w fun e w' => e = .returned (.string s) ∧ Below w.heap.size w w' := by
  have HT := Lib.hid ht
  have HI := Lib.hid hi
  have HR := Lib.hid hr
  have HS := Lib.hid hs
  clear ht hi hr hs
  have HB := hb_start w
  go_enter Tryz.func10, Tryz.ntmps10
  go_wp2_with fail
  go_loopw [8] (fun i wr => ∃ k : Nat, i = .int .i64 k ∧ k ≤ l.length ∧ Hid (Lib.IsBuilder 84 5 w.heap.size w.heap.size (Lib.byteCells (lines l k)) wr) ∧ Hid (Below w.heap.size w wr)) (fun i _ => l.length - (intOf i).toNat)
  case atStart => exact ⟨0, rfl, by omega, isb_new w, hb_alloc HB _⟩
  case round =>
    clear HB
    obtain ⟨k, rfl, hk, HQ, HB⟩ := hrel
    by_cases hlt : k < l.length
    · have hcell := (HI.out.below HB.out).2 k hlt
      obtain ⟨c0, c1, c2⟩ := hcell
      have hbl : b < wr.heap.size := (HI.out.below HB.out).1
      obtain ⟨r0, r1, r2⟩ := insAt_r l HR.out k
      have HR0 := Lib.hid r0
      have HR1 := Lib.hid r1
      have HR2 := Lib.hid r2
      generalize h0 : (insAt l k).1 = x0 at c0 HR0
      generalize h1 : (insAt l k).2.1 = x1 at c1 HR1
      generalize h2 : (insAt l k).2.2 = x2 at c2 HR2
      obtain ⟨t, ht⟩ : ∃ t, codeLine k x0 x1 x2 = t := ⟨_, rfl⟩
      have hnx := lines_next l k
      rw [h0, h1, h2, ht] at hnx
      have HX := Lib.hid hnx
      have HTT := Lib.hid ht
      have htz : t.size ≤ 200 := by rw [← ht]; exact line_size _ _ _ _ (by unfold R; omega) HR1.out HR2.out
      have hlz := lines_size l HR.out k (by omega)
      clear hnx ht h0 h1 h2 r0 r1 r2
      go_wp2_with (first | (go_at_call 23; refine (line_r _ _ _ _ (by unfold R; omega) HR1.out HR2.out _ HTT.out _ (Tab.at HT (by repeat (first | exact HB | refine hb_drew ?_ | refine hb_alloc ?_ _)))).mono ?_; rintro e w2 ⟨rfl, hb⟩; have HQ2 := isb_below (isb_alloc HQ _) hb; clear HQ; have HQ := HQ2; clear HQ2; have HB2 : Hid (Below w.heap.size w w2) := hb_step (by repeat (first | exact HB | refine hb_drew ?_ | refine hb_alloc ?_ _)) hb; clear HB; have HB := HB2; clear HB2; clear hb) | (go_at_call 22; refine (write_r w.heap.size _ _ _ _ HQ.out (by rw [Lib.byteCells_length]; omega) HB.out.size).mono ?_; rintro e w2 ⟨rfl, hq, hb⟩; clear HQ; have HQ := Lib.hid hq; clear hq; have HB2 := hb_w HB hb; clear HB; have HB := HB2; clear HB2; clear hb))
      go_roundw
      case rel => exact ⟨k + 1, by go_num, by omega, by rw [HX.out]; have := HQ.out; rw [Lib.byteCells, List.map_append]; exact .inr this, HB⟩
      case measure => simp [intOf]; omega
    · obtain rfl : k = l.length := by omega
      go_wp2_with (go_at_call 24; refine (Tryz.Builder_String_any w.heap.size _ _ _ HQ.out HB.out.size).mono ?_; rintro e w2 ⟨rfl, hb⟩; have HB2 := hb_w HB hb; clear HB; have HB := HB2; clear HB2; clear hb)
      go_ret
      exact ⟨congrArg (fun x => Ending.returned (Value.string x)) HS.out, HB.out⟩

set_option maxHeartbeats 4000000 in
set_option maxRecDepth 1000000 in
theorem text_nil (cap : Nat) (w : World) (a0 : Option Addr) :
    Calls Tryz.prog 10 #[.slice a0 0 cap] w fun e w' => e = .returned (.string ⟨#[]⟩) ∧ Below w.heap.size w w' := by
  have HB := hb_start w
  go_enter Tryz.func10, Tryz.ntmps10
  go_wp2_with fail
  go_loopw [8] (fun i wr => i = .int .i64 0 ∧ Hid (Lib.IsBuilder 84 5 w.heap.size w.heap.size (Lib.byteCells []) wr) ∧ Hid (Below w.heap.size w wr)) (fun i _ => 0)
  case atStart => exact ⟨rfl, isb_new w, hb_alloc HB _⟩
  case round =>
    clear HB
    obtain ⟨rfl, HQ, HB⟩ := hrel
    go_wp2_with (go_at_call 24; refine (Tryz.Builder_String_any w.heap.size _ _ _ HQ.out HB.out.size).mono ?_; rintro e w2 ⟨rfl, hb⟩; have HB2 := hb_w HB hb; clear HB; have HB := HB2; clear HB2; clear hb)
    go_ret
    exact ⟨rfl, HB.out⟩
end Go.Proofs.YthjjcmmonjajhaaGreatDoor.C
