/- The walk of CodeTexts. -/
import Derived.Test.YtbipfkbjdbdghaaDoorCodeLaws
import Derived.Deep.RegionHeld3
import Derived.Deep.Slices
import Derived.ChangeSame
import Derived.ProofKit
namespace Go.Proofs.YtbipfkbjdbdghaaDoor
open Go.RowKit Go.Sort
set_option linter.unusedVariables false
set_option linter.unusedSimpArgs false

set_option maxHeartbeats 8000000 in
set_option maxRecDepth 1000000 in
theorem texts_core (b off len cap : Nat) (l : List Ins3) (hmin : min (len : Int) 100 = (l.length : Int)) (hc : len ≤ cap) (hcm : cap ≤ 9223372036854775807) (hr : InsR l) (w : World) (hi : InsIn w b off l) (ht : Tab w) :
    Calls Tryd.prog 4 #[.slice (some ⟨b, off, none⟩) len cap] w fun e w' => e = .returned (.bool true) ∧ Below w.heap.size w w' := by
  have hl : l.length ≤ 100 := by omega
  have hlc : l.length ≤ len := by omega
  have HT := Lib.hid ht
  have HI := Lib.hid hi
  have HR := Lib.hid hr
  clear ht hi hr
  have HB := hb_start w
  go_enter Tryd.func4, Tryd.ntmps4
  go_wp2_with (go_at_call 7; refine (shown_r _ (Tab.at HT HB)).mono ?_; rintro e w' ⟨rfl, hb⟩; have HB2 := hb_step HB hb; clear HB; have HB := HB2; clear HB2; clear hb)
  go_loopw [4, 5] (fun s i wr => ∃ (k : Nat) (t : ByteArray), i = .int .i64 k ∧ s = .string t ∧ k ≤ l.length ∧ t.size ≤ 200 * k ∧ Hid (t.data.toList = lines l k) ∧ Hid (Below w.heap.size w wr)) (fun _ i _ => l.length - (intOf i).toNat)
  case atStart => exact ⟨0, ⟨#[]⟩, rfl, rfl, by omega, Nat.le_refl 0, rfl, HB⟩
  case round =>
    clear HB
    obtain ⟨k, t, rfl, rfl, hk, hz, HL, HB⟩ := hrel
    by_cases hlt : k < l.length
    · have hcell := (HI.out.below HB.out).2 k hlt
      obtain ⟨c0, c1, c2⟩ := hcell
      have hbl : b < wr.heap.size := (HI.out.below HB.out).1
      obtain ⟨r0, r1, r2⟩ := insAt_r l HR.out k
      have HR0 := Lib.hid r0
      have HR1 := Lib.hid r1
      have HR2 := Lib.hid r2
      have hnx := lines_next l k
      generalize h0 : (insAt l k).1 = x0 at c0 HR0 hnx
      generalize h1 : (insAt l k).2.1 = x1 at c1 HR1 hnx
      generalize h2 : (insAt l k).2.2 = x2 at c2 HR2 hnx
      obtain ⟨u, ht⟩ : ∃ u, codeLine k x0 x1 x2 = u := ⟨_, rfl⟩
      rw [ht] at hnx
      have HX := Lib.hid hnx
      have HTT := Lib.hid ht
      have htz : u.size ≤ 200 := by rw [← ht]; exact line_size _ _ _ _ (by unfold R; omega) HR1.out HR2.out
      have HC := Lib.hid (And.intro c0 (And.intro c1 (And.intro c2 hbl)))
      have hz2 : t.size ≤ 20000 := by omega
      have hcat : ∀ W : World, (Op.stringOp .add t u).run Tryd.prog W = .ok (.string (t ++ u)) W := fun W => run_string_add_sum W t u (by omega)
      have hzn : ¬ (t.size + u.size > 9223372036854775807) := by omega
      have hz3 : (t.size : Int) + (u.size : Int) ≤ 9223372036854775807 := by omega
      have hz4 : ¬ ((9223372036854775807 : Int) < (t.size : Int) + (u.size : Int)) := by omega
      have hz5 : ((t.size + u.size : Nat) : Int) ≤ 9223372036854775807 := by omega
      clear hnx ht h0 h1 h2 r0 r1 r2
      go_upto_region 7 with fail
      go_region_held3 (fun wx => wx.cell? ⟨b, off + k * 3, none⟩ = some (.int .i64 x0) ∧ wx.cell? ⟨b, off + k * 3 + 1, none⟩ = some (.int .i64 x1) ∧ wx.cell? ⟨b, off + k * 3 + 2, none⟩ = some (.int .i64 x2)) (first | exact ⟨HC.out.1, HC.out.2.1, HC.out.2.2.1⟩ | exact ⟨c0', c1', c2'⟩)
        (first | (go_at_call 15; refine (refline_r _ _ _ _ (by unfold R; omega) HR1.out HR2.out _ HTT.out _).mono ?_; rintro e w2 ⟨rfl, hb⟩; have c0' := (hb.cell (p := ⟨b, off + k * 3, none⟩) HC.out.2.2.2).trans HC.out.1; have c1' := (hb.cell (p := ⟨b, off + k * 3 + 1, none⟩) HC.out.2.2.2).trans HC.out.2.1; have c2' := (hb.cell (p := ⟨b, off + k * 3 + 2, none⟩) HC.out.2.2.2).trans HC.out.2.2.1; have HB2 : Hid (Below w.heap.size w w2) := hb_step (by repeat (first | exact HB | refine hb_drew ?_ | refine hb_alloc ?_ _)) hb; clear HB; have HB := HB2; clear HB2; clear hb))
      all_goals go_wp2
      all_goals go_roundw
      case rel => exact ⟨k + 1, t ++ u, by go_num, rfl, by omega, by rw [ByteArray.size_append]; omega, by show _ = _; rw [data_append, HL.out, HX.out], HB⟩
      case measure => simp [intOf]; omega
    · obtain rfl : k = l.length := by omega
      have htt : t = ⟨(lines l l.length).toArray⟩ := bytes_ext HL.out
      have HTX := Lib.hid htt.symm
      clear htt
      go_wp2_with (go_at_call 16; refine (text_r b off cap l (by omega) HR.out (by omega) _ HTX.out _ (HI.out.below HB.out) (Tab.at HT HB)).mono ?_; rintro e w2 ⟨rfl, hb⟩; have HB2 := hb_step HB hb; clear HB; have HB := HB2; clear HB2; clear hb)
      go_ret
      exact ⟨rfl, HB.out⟩

set_option maxHeartbeats 8000000 in
set_option maxRecDepth 1000000 in
theorem texts_zero (a : Addr) (cap : Nat) (hcm : cap ≤ 9223372036854775807) (w : World) (ht : Tab w) :
    Calls Tryd.prog 4 #[.slice (some a) 0 cap] w fun e w' => e = .returned (.bool true) ∧ Below w.heap.size w w' := by
  have HT := Lib.hid ht
  clear ht
  have HB := hb_start w
  go_enter Tryd.func4, Tryd.ntmps4
  go_wp2_with (go_at_call 7; refine (shown_r _ (Tab.at HT HB)).mono ?_; rintro e w' ⟨rfl, hb⟩; have HB2 := hb_step HB hb; clear HB; have HB := HB2; clear HB2; clear hb)
  go_loopw [4, 5] (fun s i wr => i = .int .i64 0 ∧ s = .string ⟨#[]⟩ ∧ Hid (Below w.heap.size w wr)) (fun _ i _ => 0)
  case atStart => exact ⟨rfl, rfl, HB⟩
  case round =>
    clear HB
    obtain ⟨rfl, rfl, HB⟩ := hrel
    go_wp2_with (go_at_call 16; refine (text_nil _ _ _).mono ?_; rintro e w2 ⟨rfl, hb⟩; have HB2 := hb_step HB hb; clear HB; have HB := HB2; clear HB2; clear hb)
    go_ret
    exact ⟨rfl, HB.out⟩

set_option maxHeartbeats 8000000 in
set_option maxRecDepth 1000000 in
theorem texts_none (w : World) (ht : Tab w) :
    Calls Tryd.prog 4 #[.slice none 0 0] w fun e w' => e = .returned (.bool true) ∧ Below w.heap.size w w' := by
  have HT := Lib.hid ht
  clear ht
  have HB := hb_start w
  go_enter Tryd.func4, Tryd.ntmps4
  go_wp2_with (go_at_call 7; refine (shown_r _ (Tab.at HT HB)).mono ?_; rintro e w' ⟨rfl, hb⟩; have HB2 := hb_step HB hb; clear HB; have HB := HB2; clear HB2; clear hb)
  go_loopw [4, 5] (fun s i wr => i = .int .i64 0 ∧ s = .string ⟨#[]⟩ ∧ Hid (Below w.heap.size w wr)) (fun _ i _ => 0)
  case atStart => exact ⟨rfl, rfl, HB⟩
  case round =>
    clear HB
    obtain ⟨rfl, rfl, HB⟩ := hrel
    go_wp2_with (go_at_call 16; refine (text_nil _ _ _).mono ?_; rintro e w2 ⟨rfl, hb⟩; have HB2 := hb_step HB hb; clear HB; have HB := HB2; clear HB2; clear hb)
    go_ret
    exact ⟨rfl, HB.out⟩

def ArgIn (w : World) (v : Value) : Prop := v = .slice none 0 0 ∨ (∃ a cap, v = .slice (some a) 0 cap ∧ cap ≤ 9223372036854775807) ∨
  ∃ b off len cap l, v = .slice (some ⟨b, off, none⟩) len cap ∧ min (len : Int) 100 = ((l : List Ins3).length : Int) ∧ len ≤ cap ∧ cap ≤ 9223372036854775807 ∧ InsR l ∧ InsIn w b off l
theorem texts_walk (v : Value) (w : World) (hv : ArgIn w v) (ht : Tab w) :
    Calls Tryd.prog 4 #[v] w fun e w' => e = .returned (.bool true) ∧ Below w.heap.size w w' := by
  rcases hv with rfl | ⟨a, cap, rfl, hc⟩ | ⟨b, off, len, cap, l, rfl, h1, h2, h3, h4, h5⟩
  · exact texts_none w ht
  · exact texts_zero a cap hc w ht
  · exact texts_core b off len cap l h1 h2 h3 h4 w h5 ht

theorem ins_cells {H : Type} {enc : TypeId × Value → H} {W : World} {base : Nat} {sp : Nat → Bool} {held : Bool} {fuel : Nat} {cs : List Value} {y : DataW H × List MemPlace} (h : DataW.trod enc Tryd.prog W base sp held fuel 33 cs = some y) :
    ∃ x : Ins3, R x.1 ∧ R x.2.1 ∧ R x.2.2 ∧ cs = [.int .i64 x.1, .int .i64 x.2.1, .int .i64 x.2.2] := by
  obtain ⟨xs, m, _, rfl, hl, hxl, hf⟩ := DataW.trod_struct Tryd.underlying33 h
  have hc3 : Tryd.prog.cellsOf 33 = 3 := by kernel_rfl
  have hci : Tryd.prog.cellsOf 3 = 1 := by kernel_rfl
  have hcl : Tryd.prog.cellsOf 2 = 1 := by kernel_rfl
  rw [hc3] at hl
  match cs, hl with
  | [v0, v1, v2], _ =>
    match xs, hxl with
    | [y0, y1, y2], _ =>
      have h0 := hf 0 _ rfl
      have h1 := hf 1 _ rfl
      have h2 := hf 2 _ rfl
      simp [hci, hcl] at h0 h1 h2
      obtain ⟨n0, e0, rfl, w0⟩ := DataW.trod_int Tryd.underlying3 h0
      obtain ⟨n1, e1, rfl, w1⟩ := DataW.trod_int Tryd.underlying3 h1
      obtain ⟨n2, e2, rfl, w2⟩ := DataW.trod_int Tryd.underlying2 h2
      cases e0; cases e1; cases e2
      exact ⟨(n0, n1, n2), bounds_i64 w0, bounds_i64 w1, bounds_i64 w2, rfl⟩

theorem open_arg {H : Type} {enc : TypeId × Value → H} {W : World} {base : Nat} {held : Bool} {v : Value} {d : DataW H} {p : List MemPlace} {a0 : Option Addr} {n0 c0 : Nat} (hv : v = .slice a0 n0 c0) (h : DataW.Trod enc Tryd.prog W base (fun _ => true) held 30 v d p) : ArgIn W v := by
  obtain ⟨fuel, hf⟩ := h
  have hc3 : Tryd.prog.cellsOf 33 = 3 := by kernel_rfl
  subst hv
  rcases Go.Deep.open_slice Tryd.underlying30 hf with ⟨hcs, _⟩ | ⟨a, len, cap, m, n, D, Pl, hcs, hb, hl, hm, hmm, hx, hi⟩
  · exact .inl (List.cons.inj hcs).1
  · have hcs' : Value.slice a0 n0 c0 = .slice (some a) len cap := (List.cons.inj hcs).1
    rw [hcs']
    rw [if_pos rfl] at hmm
    subst hmm
    by_cases h0 : len = 0
    · subst h0; exact .inr (.inl ⟨a, _, rfl, hm⟩)
    · rw [hc3] at hi
      have key : ∀ i, ∃ x : Ins3, i < m → R x.1 ∧ R x.2.1 ∧ R x.2.2 ∧ W.cell? (a.add (i * 3)) = some (.int .i64 x.1) ∧ W.cell? ((a.add (i * 3)).add 1) = some (.int .i64 x.2.1) ∧ W.cell? ((a.add (i * 3)).add 2) = some (.int .i64 x.2.2) := by
        intro i
        by_cases him : i < m
        · obtain ⟨cs', hc, ht⟩ := hi i him
          obtain ⟨x, r0, r1, r2, rfl⟩ := ins_cells ht
          obtain ⟨_, hcl, hat⟩ := World.cells?_some hc
          exact ⟨x, fun _ => ⟨r0, r1, r2, hat 0 (by omega), hat 1 (by omega), hat 2 (by omega)⟩⟩
        · exact ⟨(0, 0, 0), fun h => absurd h him⟩
      obtain ⟨b, off, spot⟩ := a
      have hs : spot = none := by
        have h := (Classical.choose_spec (key 0) (by omega)).2.2.2.1
        generalize (Classical.choose (key 0)).1 = x0 at h
        cases spot with
        | none => rfl
        | some z =>
          exfalso
          simp only [World.cell?, Addr.add, Nat.zero_mul, if_true, Option.isSome_some] at h
          split at h <;> simp at h
      subst hs
      have hadd : ∀ (o n : Nat), (⟨b, o, none⟩ : Addr).add n = ⟨b, o + n, none⟩ := fun o n => by unfold Addr.add; split <;> simp_all
      simp only [hadd] at key
      have hbl : b < W.heap.size := lt_of_cell (Classical.choose_spec (key 0) (by omega)).2.2.2.1
      let l : List Ins3 := (List.range (min len 100)).map fun i => Classical.choose (key i)
      have hll : l.length = min len 100 := by simp [l]
      have hat : ∀ i, i < l.length → insAt l i = Classical.choose (key i) := by
        intro i hi
        unfold insAt
        rw [List.getD_eq_getElem?_getD]
        simp only [l, List.getElem?_map]
        rw [List.getElem?_range (by omega)]; rfl
      refine .inr (.inr ⟨b, off, len, m, l, rfl, by omega, hl, hm, ?_, hbl, ?_⟩)
      · intro x hx
        obtain ⟨i, hi, rfl⟩ := List.mem_map.1 hx
        have := Classical.choose_spec (key i) (by have := List.mem_range.1 hi; omega)
        exact ⟨this.1, this.2.1, this.2.2.1⟩
      · intro i hi
        rw [hat i hi]
        have := Classical.choose_spec (key i) (by omega)
        exact ⟨this.2.2.2.1, this.2.2.2.2.1, this.2.2.2.2.2⟩
end Go.Proofs.YtbipfkbjdbdghaaDoor
