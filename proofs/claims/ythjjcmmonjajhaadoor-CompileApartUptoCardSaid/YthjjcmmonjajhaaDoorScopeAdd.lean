/- A new name is added. -/
import Derived.Test.YthjjcmmonjajhaaDoorScopeDefs
namespace Go.Proofs.YthjjcmmonjajhaaDoor
open Go.RowKit Go.Sort Go.Maps
set_option linter.unusedVariables false

theorem set_same {cs : Array Value} {j : Nat} {v : Value} (h : j < cs.size) : (cs.setIfInBounds j v)[j]? = some v := by simp [h]
theorem map_ne_box {w : World} {k : TypeId} {R : Value → Option (DataW Unit × List MemPlace)} {b n : Nat} {D : DataW Unit} (h : w.ownsMap Tryd.prog k R b n D) {g : Nat} {cs : Array Value} {t : TypeId} {fr : Nat × Nat} (hg : w.heap[g]? = some (.cells cs t fr)) : b ≠ g := by
  rintro rfl
  obtain ⟨es, clock, hb, _⟩ := h
  rw [hb] at hg
  cases hg
theorem row_ne_map {w : World} {k e : TypeId} {R : Value → Option (DataW Unit × List MemPlace)} {b n base size m : Nat} {D : DataW Unit} {v : Value} {xs : List Value} (h : w.ownsMap Tryd.prog k R b n D) (hr : w.ownsRow base e size v m xs) : some b ≠ v.ownBlock := by
  obtain ⟨_, ⟨rfl, _⟩ | ⟨g, cap, cur, rfl, _, hg, _⟩⟩ := hr
  · simp [Value.ownBlock]
  · simp only [Value.ownBlock]
    intro e'
    cases e'
    exact map_ne_box h hg rfl
theorem map_some (mb : Nat) (w : World) : (binOp .eql 77 (.map (some mb)) (.map none)).run Tryd.prog w = .ok (.bool false) w := by kernel_rfl
theorem map_none (w : World) : (binOp .eql 77 (.map none) (.map none)).run Tryd.prog w = .ok (.bool true) w := by kernel_rfl
theorem names_append (l : List ByteArray) (s : ByteArray) : (l ++ [s]).map Value.string = l.map Value.string ++ [Value.string s] := by simp

set_option maxHeartbeats 4000000 in
set_option maxRecDepth 1000000 in
theorem add_new (n0 fb j : Nat) (cs : Array Value) (lv : Value) (mb : Nat) (l : List ByteArray) (s : ByteArray) (hs : s.size ≤ 32) (W : World) (hb : W.heap[fb]? = some (.cells cs 81 (0, 0))) (hj : cs[j]? = some lv) (hj1 : cs[j + 1]? = some (.map (some mb))) (hn : Nm n0 W lv (.map (some mb)) l) (hm : memB l s = false)
    (h0 : n0 ≤ W.heap.size) (hge : n0 ≤ fb) (hl : l.length ≤ 4194304) :
    Calls Tryd.prog 20 #[.pointer (some ⟨fb, j, none⟩), .string s] W fun e w' => e = .returned (.bool true) ∧ Added n0 fb j cs lv (.map (some mb)) (l ++ [s]) W w' := by
  obtain ⟨i0, hi, hz0, hz1, hz2⟩ := info_parts infoStr
  obtain ⟨hr, h | ⟨mb', D, e, hgm, hown, hD⟩⟩ := hn
  · cases h.1
  cases e
  have hk := look_name hown hD s hs
  rw [hm] at hk
  have hfl := lt_of_heap hb
  have hms := map_some mb
  have c1 : W.cell? ⟨fb, j + 1, none⟩ = some (.map (some mb)) := (cell_of_heap hb (j + 1)).trans hj1
  have HOW := Lib.hid hown
  have HRW := Lib.hid hr
  have HD := Lib.hid hD
  have HB := Lib.hid hb
  have HJ := Lib.hid hj
  have HJ1 := Lib.hid hj1
  have HNF := Lib.hid (map_ne_box hown hb)
  have HNR := Lib.hid (row_ne_map hown hr)
  have HRF := Lib.hid (own_ne_box hr hb (by decide))
  have HL := Lib.hid hl
  obtain ⟨la, lc, rfl⟩ := own_shape hr
  clear hr hown hD hb hj hj1 hm hl
  go_enter Tryd.func20, Tryd.ntmps20
  go_wp2_with (first
    | (at_mapUpdate; refine wpList_mapUpdate_own _ rfl _ _ _ 77 rfl 9 4 lawStr Tryd.underlying77 (plainElem Tryd.prog 4) mb l.length D rfl HOW.out (by have := HL.out; unfold maxLen; omega) _ _ _ rfl rfl (WideMaps.keyOf_string_mk Tryd.underlying9 (s := s) (by unfold maxLen; omega)) (litB true) [] (plainElem_bool Tryd.underlying4 true) ?_
       intro w1 hown1 hgrow1
       have HO1 := Lib.hid hown1
       have HG1 := Lib.hid hgrow1
       have HB1 := Lib.hid ((hgrow1.block fb hfl (fun e => HNF.out (Option.some.inj e).symm)).trans HB.out)
       have HR1 := Lib.hid (HRW.out.kept hgrow1 (.inr (fun e => HNR.out e.symm)))
       have d0 : w1.cell? ⟨fb, j, none⟩ = some (.slice la l.length lc) := (cell_of_heap HB1.out j).trans HJ.out
       clear hown1 hgrow1 c1 hk)
    | (at_builtin; refine wpList_append_own_at _ rfl _ _ 33 rfl n0 9 i0 (.string ⟨#[]⟩) 1 16 Tryd.underlying33 hi hz0 hz1 hz2 rfl (by decide) _ _ _ rfl (HR1.out.alloc _) ⟨w1.heap.size, 0, none⟩ 1 1 [.string s] rfl rfl (cell_one_new _ _ _) (by intro u hu; simp at hu; subst hu; rfl) (by have := HL.out; unfold maxLen; omega) (by have := HL.out; omega) (by rw [World.size_alloc]; have := HG1.out.size; omega) ?_
       intro v' w2 hown' hgrow hx hat
       clear hx
       obtain ⟨g', cap', rfl⟩ := ownsRow_succ' hown'
       have HB2 := Lib.hid ((hgrow.block fb (by rw [World.size_alloc]; have := HG1.out.size; omega) HRF.out).trans ((Below.heap_alloc w1 _ fb (by have := HG1.out.size; omega)).trans HB1.out))
       have d1 : w2.cell? ⟨fb, j, none⟩ = some (.slice la l.length lc) := (cell_of_heap HB2.out j).trans HJ.out
       have f1 : w2.frozen? ⟨fb, j, none⟩ = false := free_of_heap HB2.out j
       have HG2 := Lib.hid hgrow
       have HO2 := Lib.hid hown'
       have HAT := Lib.hid hat
       clear hgrow hown' hat d0))
  go_ret
  have hs1 := HG1.out.size
  have hs2 := HG2.out.size
  rw [World.size_alloc] at hs2
  have hjl : j < cs.size := by
    rcases Nat.lt_or_ge j cs.size with h | h
    · exact h
    · have := HJ.out; rw [Array.getElem?_eq_none h] at this; cases this
  have hrow1 : ∀ k, (Value.slice la l.length lc).ownBlock = some k → n0 ≤ k := fun k hk => own_ge HRW.out hk
  refine ⟨rfl, ⟨⟨?_, ?_⟩, .slice (some ⟨g', 0, none⟩) (l.length + 1) cap', .map (some mb), cs.setIfInBounds j (.slice (some ⟨g', 0, none⟩) (l.length + 1) cap'), heap_set HB2.out j _, by simp, set_same hjl, ?_, ?_, ⟨?_, ?_⟩, ?_, .inl rfl⟩⟩
  · refine (((((Below.refl n0 W).grown HG1.out h0 (fun k hk => by cases hk; exact hgm)).alloc (by omega) _).grown HG2.out (by rw [World.size_alloc]; omega) hrow1)).setCell (p := ⟨fb, j, none⟩) hge _
  · intro k o hk h1 h2 h3
    have hkl := lt_of_heap hk
    rw [Below.heap_setCell _ _ _ k h1, HG2.out.block k (by rw [World.size_alloc]; omega) h2, Below.heap_alloc w1 _ k (by omega), HG1.out.block k hkl (fun e => h3 e)]
    exact hk
  · rw [Array.getElem?_setIfInBounds_ne (by omega)]; exact HJ1.out
  · intro i h1 h2
    rw [Array.getElem?_setIfInBounds_ne (fun e => h1 e.symm)]
  · have := HO2.out.kept (grown_set w2 fb j (.slice (some ⟨g', 0, none⟩) (l.length + 1) cap')) (.inr (fun e => own_ne_box HO2.out HB2.out (by decide) e.symm))
    rw [names_append, List.length_append]
    exact this
  · refine .inr ⟨mb, _, rfl, hgm, ?_, HD.out.put s⟩
    rw [List.length_append]
    exact ((HO1.out.kept (World.grownBy_alloc w1 _ none) (by simp)).kept HG2.out HNR.out).setCell (a := ⟨fb, j, none⟩) HNF.out _
  · rcases HAT.out with h | h
    · exact .inl h
    · refine .inr ⟨_, h, ?_⟩
      rw [World.size_alloc]; omega

set_option maxHeartbeats 4000000 in
set_option maxRecDepth 1000000 in
theorem add_first (n0 fb j : Nat) (cs : Array Value) (lv : Value) (s : ByteArray) (hs : s.size ≤ 32) (W : World) (hb : W.heap[fb]? = some (.cells cs 81 (0, 0))) (hj : cs[j]? = some lv) (hj1 : cs[j + 1]? = some (.map none)) (hn : Nm n0 W lv (.map none) [])
    (h0 : n0 ≤ W.heap.size) (hge : n0 ≤ fb) :
    Calls Tryd.prog 20 #[.pointer (some ⟨fb, j, none⟩), .string s] W fun e w' => e = .returned (.bool true) ∧ Added n0 fb j cs lv (.map none) ([] ++ [s]) W w' := by
  obtain ⟨i0, hi, hz0, hz1, hz2⟩ := info_parts infoStr
  obtain ⟨hr, _⟩ := hn
  have hfl := lt_of_heap hb
  have hmn := map_none
  have hmm := @run_makeMap Tryd.prog
  have hkn := fun w => look_nil_name w s hs
  have c1 : W.cell? ⟨fb, j + 1, none⟩ = some (.map none) := (cell_of_heap hb (j + 1)).trans hj1
  have c2 : W.frozen? ⟨fb, j + 1, none⟩ = false := free_of_heap hb _
  have hsz : (W.setCell ⟨fb, j + 1, none⟩ (.map (some W.heap.size))).heap.size = W.heap.size := by simp [World.setCell]
  have HA2 : Hid (((W.setCell ⟨fb, j + 1, none⟩ (.map (some W.heap.size))).alloc (.map #[] 0)).heap[fb]? = some (.cells (cs.setIfInBounds (j + 1) (.map (some W.heap.size))) 81 (0, 0))) := (Below.heap_alloc _ _ fb (by rw [hsz]; exact hfl)).trans (heap_set hb (j + 1) _)
  have HOW : Hid (((W.setCell ⟨fb, j + 1, none⟩ (.map (some W.heap.size))).alloc (.map #[] 0)).ownsMap Tryd.prog 9 (plainElem Tryd.prog 4) W.heap.size 0 (.map [] : DataW Unit)) :=
    by have := World.ownsMap_made (H := Unit) (W.setCell ⟨fb, j + 1, none⟩ (.map (some W.heap.size))) Tryd.prog 9 (plainElem Tryd.prog 4)
       rw [hsz] at this; exact this
  have HS2 : Hid (((W.setCell ⟨fb, j + 1, none⟩ (.map (some W.heap.size))).alloc (.map #[] 0)).heap.size = W.heap.size + 1) := by show _ = _; rw [World.size_alloc, hsz]
  have HRW0 := Lib.hid hr
  have HRW : Hid (((W.setCell ⟨fb, j + 1, none⟩ (.map (some W.heap.size))).alloc (.map #[] 0)).ownsRow n0 9 1 lv ([] : List ByteArray).length (([] : List ByteArray).map Value.string)) :=
    (hr.kept (grown_set _ fb (j + 1) _) (.inr (fun e => own_ne_box hr hb (by decide) e.symm))).alloc _
  have HB := Lib.hid hb
  have HJ := Lib.hid hj
  have HRF := Lib.hid (own_ne_box hr hb (by decide))
  have hjn : j ≠ j + 1 := by omega
  have HJ2 : Hid ((cs.setIfInBounds (j + 1) (.map (some W.heap.size)))[j]? = some lv) := by show _ = _; rw [Array.getElem?_setIfInBounds_ne (by omega)]; exact hj
  have hjl1 : j + 1 < cs.size := by
    rcases Nat.lt_or_ge (j + 1) cs.size with h | h
    · exact h
    · rw [Array.getElem?_eq_none h] at hj1; cases hj1
  have HJL := Lib.hid hjl1
  obtain ⟨la, lc, rfl⟩ := own_shape hr
  clear hr hb hj hj1 hjn hjl1 hsz
  go_enter Tryd.func20, Tryd.ntmps20
  go_wp2_with (first
    | (at_mapUpdate; refine wpList_mapUpdate_own _ rfl _ _ _ 77 rfl 9 4 lawStr Tryd.underlying77 (plainElem Tryd.prog 4) W.heap.size 0 (.map []) rfl HOW.out (by unfold maxLen; omega) _ _ _ rfl rfl (WideMaps.keyOf_string_mk Tryd.underlying9 (s := s) (by unfold maxLen; omega)) (litB true) [] (plainElem_bool Tryd.underlying4 true) ?_
       intro w1 hown1 hgrow1
       have HO1 := Lib.hid hown1
       have HG1 := Lib.hid hgrow1
       have HB1 := Lib.hid ((hgrow1.block fb (by rw [HS2.out]; omega) (fun e => map_ne_box HOW.out HA2.out (Option.some.inj e).symm)).trans HA2.out)
       have HR1 := Lib.hid (HRW.out.kept hgrow1 (.inr (fun e => row_ne_map HOW.out HRW.out e.symm)))
       have d0 : w1.cell? ⟨fb, j, none⟩ = some (.slice la ([] : List ByteArray).length lc) := (cell_of_heap HB1.out j).trans HJ2.out
       clear hown1 hgrow1 c1 c2)
    | (at_builtin; refine wpList_append_own_at _ rfl _ _ 33 rfl n0 9 i0 (.string ⟨#[]⟩) 1 16 Tryd.underlying33 hi hz0 hz1 hz2 rfl (by decide) _ _ _ rfl (HR1.out.alloc _) ⟨w1.heap.size, 0, none⟩ 1 1 [.string s] rfl rfl (cell_one_new _ _ _) (by intro u hu; simp at hu; subst hu; rfl) (by unfold maxLen; simp) (by simp) (by rw [World.size_alloc]; have := HG1.out.size; rw [HS2.out] at this; omega) ?_
       intro v' w2 hown' hgrow hx hat
       clear hx
       obtain ⟨g', cap', rfl⟩ := ownsRow_succ' hown'
       have HB2 := Lib.hid ((hgrow.block fb (by rw [World.size_alloc]; have := HG1.out.size; rw [HS2.out] at this; omega) HRF.out).trans ((Below.heap_alloc w1 _ fb (by have := HG1.out.size; rw [HS2.out] at this; omega)).trans HB1.out))
       have d1 : w2.cell? ⟨fb, j, none⟩ = some (.slice la ([] : List ByteArray).length lc) := (cell_of_heap HB2.out j).trans HJ2.out
       have f1 : w2.frozen? ⟨fb, j, none⟩ = false := free_of_heap HB2.out j
       have HG2 := Lib.hid hgrow
       have HO2 := Lib.hid hown'
       have HAT := Lib.hid hat
       clear hgrow hown' hat d0))
  go_ret
  have hs1 := HG1.out.size
  rw [HS2.out] at hs1
  have hs2 := HG2.out.size
  rw [World.size_alloc] at hs2
  have hjl : j < cs.size := by have := HJL.out; omega
  have hrow1 : ∀ k, (Value.slice la ([] : List ByteArray).length lc).ownBlock = some k → n0 ≤ k := fun k hk => own_ge HRW0.out hk
  have hz : ((W.setCell ⟨fb, j + 1, none⟩ (.map (some W.heap.size))).heap.size) = W.heap.size := by simp [World.setCell]
  refine ⟨rfl, ⟨⟨?_, ?_⟩, .slice (some ⟨g', 0, none⟩) (([] : List ByteArray).length + 1) cap', .map (some W.heap.size), (cs.setIfInBounds (j + 1) (.map (some W.heap.size))).setIfInBounds j (.slice (some ⟨g', 0, none⟩) (([] : List ByteArray).length + 1) cap'), heap_set HB2.out j _, by simp, set_same (by simpa using hjl), ?_, ?_, ⟨?_, ?_⟩, ?_, .inr ⟨_, rfl, Nat.le_refl _⟩⟩⟩
  · refine (((((((Below.refl n0 W).setCell (p := ⟨fb, j + 1, none⟩) hge (.map (some W.heap.size))).alloc (by rw [hz]; exact h0) (.map #[] 0)).grown HG1.out (by rw [HS2.out]; omega) (fun k hk => by cases hk; exact h0)).alloc (by omega) _).grown HG2.out (by rw [World.size_alloc]; omega) hrow1)).setCell (p := ⟨fb, j, none⟩) hge _
  · intro k o hk h1 h2 h3
    have hkl := lt_of_heap hk
    rw [Below.heap_setCell _ _ _ k h1, HG2.out.block k (by rw [World.size_alloc]; omega) h2, Below.heap_alloc w1 _ k (by omega), HG1.out.block k (by rw [HS2.out]; omega) (fun e => by have := Option.some.inj e; omega), Below.heap_alloc _ _ k (by rw [hz]; exact hkl), Below.heap_setCell _ _ _ k h1]
    exact hk
  · rw [Array.getElem?_setIfInBounds_ne (by omega), set_same HJL.out]
  · intro i h1 h2
    rw [Array.getElem?_setIfInBounds_ne (fun e => h1 e.symm), Array.getElem?_setIfInBounds_ne (fun e => h2 e.symm)]
  · have := HO2.out.kept (grown_set w2 fb j (.slice (some ⟨g', 0, none⟩) (([] : List ByteArray).length + 1) cap')) (.inr (fun e => own_ne_box HO2.out HB2.out (by decide) e.symm))
    exact this
  · refine .inr ⟨W.heap.size, _, rfl, h0, ?_, setIs_empty.put s⟩
    exact ((HO1.out.kept (World.grownBy_alloc w1 _ none) (by simp)).kept HG2.out (row_ne_map HOW.out HRW.out)).setCell (a := ⟨fb, j, none⟩) (by show W.heap.size ≠ fb; omega) _
  · rcases HAT.out with h | h
    · exact .inl h
    · refine .inr ⟨_, h, ?_⟩
      rw [World.size_alloc]; omega

/-- add: a name, once. -/
theorem add_r (n0 fb j : Nat) (cs : Array Value) (lv mv : Value) (l : List ByteArray) (s : ByteArray) (hs : s.size ≤ 32) (W : World) (hb : W.heap[fb]? = some (.cells cs 81 (0, 0))) (hj : cs[j]? = some lv) (hj1 : cs[j + 1]? = some mv) (hn : Nm n0 W lv mv l)
    (h0 : n0 ≤ W.heap.size) (hge : n0 ≤ fb) (hl : l.length ≤ 4194304) :
    Calls Tryd.prog 20 #[.pointer (some ⟨fb, j, none⟩), .string s] W fun e w' => e = .returned (.bool (!memB l s)) ∧ Added n0 fb j cs lv mv (addL l s) W w' := by
  cases hm : memB l s with
  | true => exact add_has n0 fb j cs lv mv l s hs W hb hj hj1 hn hm
  | false =>
    have e : addL l s = l ++ [s] := by unfold addL; rw [if_neg (by rw [hm]; decide)]
    rw [e]
    rcases hn.map with ⟨rfl, rfl⟩ | ⟨mb, D, rfl, _⟩
    · exact add_first n0 fb j cs lv s hs W hb hj hj1 hn h0 hge
    · exact add_new n0 fb j cs lv mb l s hs W hb hj hj1 hn hm h0 hge hl
end Go.Proofs.YthjjcmmonjajhaaDoor
