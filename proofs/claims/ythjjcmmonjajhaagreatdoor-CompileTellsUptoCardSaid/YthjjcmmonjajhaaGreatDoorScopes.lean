/- Names, each once: a list in memory and the map of those seen; add. A new name is added. The finder in memory: three lists of names, apart; a name is added to one of them. How many parameters a function has, by its name: the map of Resolve, and its closure. Whether what was found of a function fits: fits, its closure, the searches. -/
import Derived.Test.YthjjcmmonjajhaaGreatDoorComps
import Derived.Maps.OwnSet
import Derived.Maps.AppendAt
import Derived.Test.YthjjcmmonjajhaaGreatDoorRights
namespace Go.Proofs.YthjjcmmonjajhaaGreatDoor
open Go.RowKit Go.Sort Go.Maps
set_option linter.unusedVariables false

def memB (l : List ByteArray) (s : ByteArray) : Bool := l.any fun x => s.toList == x.toList
def addL (l : List ByteArray) (s : ByteArray) : List ByteArray := if memB l s then l else l ++ [s]
def keyL (s : ByteArray) : Lit := .string s.data.toList
def litB (b : Bool) : DataW Unit := .lit (.bool b)
/-- A map says just which names are on a list. -/
def SetIs (D : DataW Unit) (l : List ByteArray) : Prop := IsMap D ∧ ∀ s : ByteArray, D.atKey (keyL s) (litB false) = litB (memB l s)
theorem setIs_empty : SetIs (.map []) [] := ⟨isMap_empty, fun s => rfl⟩
theorem SetIs.put {D : DataW Unit} {l : List ByteArray} (h : SetIs D l) (s : ByteArray) : SetIs (D.put (keyL s) (litB true)) (l ++ [s]) := by
  refine ⟨h.1.put _ _, fun t => ?_⟩
  have e : memB (l ++ [s]) t = (memB l t || (t.toList == s.toList)) := by unfold memB; rw [List.any_append]; simp
  rw [e]
  by_cases hts : t.toList = s.toList
  · have hk : keyL t = keyL s := by
      unfold keyL
      rw [ByteArray.toList_eq, ByteArray.toList_eq] at hts
      rw [hts]
    rw [hk, atKey_put_same h.1 (by simp [WideAt.IsKeyLit, keyL]) _ _, hts]
    simp
  · have hk : keyL t ≠ keyL s := by
      intro h'
      unfold keyL at h'
      injection h' with h'
      rw [ByteArray.toList_eq, ByteArray.toList_eq] at hts
      exact hts h'
    rw [atKey_put_other hk, h.2 t]
    have : (t.toList == s.toList) = false := by simpa using hts
    rw [this, Bool.or_false]
theorem lawStr : Keyed Tryz.prog 9 := string_keyed Tryz.underlying9
theorem zeroBool (w : World) : (zeroValue 4).run Tryz.prog w = .ok (.bool false) w := by kernel_rfl
theorem plainElem_bool_inv {H : Type} {P : Program} {e : TypeId} (he : P.underlying e = some .bool) {v : Value} {z : DataW H × List MemPlace} (h : plainElem P e v = some z) : ∃ b, v = .bool b ∧ z = (.lit (.bool b), []) := by
  unfold plainElem at h
  rw [he] at h
  cases v <;> simp at h
  exact ⟨_, rfl, h.symm⟩
/-- A name looked up in a map of names. -/
theorem look_name {w : World} {mb n : Nat} {D : DataW Unit} {l : List ByteArray} (h : w.ownsMap Tryz.prog 9 (plainElem Tryz.prog 4) mb n D) (hD : SetIs D l) (s : ByteArray) (hs : s.size ≤ 32) :
    (Instr.lookup 95 (.map (some mb)) (.string s) false).run Tryz.prog w = .ok (.bool (memB l s)) w := by
  obtain ⟨v, ps, hrun, hv⟩ := h.lookup (e := 4) lawStr Tryz.underlying95 (zeroBool w) (zd := litB false) (zp := []) (plainElem_bool Tryz.underlying4 false) (WideMaps.keyOf_string_mk Tryz.underlying9 (s := s) (by unfold maxLen; omega))
  obtain ⟨b, rfl, hb⟩ := plainElem_bool_inv Tryz.underlying4 hv
  have h1 : D.atKey (keyL s) (litB false) = .lit (.bool b) := congrArg Prod.fst hb
  rw [hD.2 s] at h1
  have h2 : b = memB l s := by
    unfold litB at h1
    exact (by simpa using h1 : memB l s = b).symm
  rw [hrun, h2]
theorem look_nil_name (w : World) (s : ByteArray) (hs : s.size ≤ 32) : (Instr.lookup 95 (.map none) (.string s) false).run Tryz.prog w = .ok (.bool false) w := by
  have := Maps.look_nil (P := Tryz.prog) (w := w) (t := 95) (e := 4) false lawStr Tryz.underlying95 (zeroBool w) (key := .string s) (WideMaps.keyOf_string_mk Tryz.underlying9 (s := s) (by unfold maxLen; omega))
  simpa using this

def mapBlk : Value → Option Nat
  | .map (some b) => some b
  | _ => none
/-- A list of names in memory, and the map of those seen. -/
structure Nm (n0 : Nat) (W : World) (lv mv : Value) (l : List ByteArray) : Prop where
  row : W.ownsRow n0 9 1 lv l.length (l.map Value.string)
  map : (mv = .map none ∧ l = []) ∨ ∃ mb D, mv = .map (some mb) ∧ n0 ≤ mb ∧ W.ownsMap Tryz.prog 9 (plainElem Tryz.prog 4) mb l.length D ∧ SetIs D l
theorem Nm.stay {n0 : Nat} {W W' : World} {lv mv : Value} {l : List ByteArray} (h : Nm n0 W lv mv l) (hs : W.heap.size ≤ W'.heap.size) (hk : ∀ k o, W.heap[k]? = some o → (some k = lv.ownBlock ∨ some k = mapBlk mv) → W'.heap[k]? = some o) : Nm n0 W' lv mv l := by
  obtain ⟨hr, hm⟩ := h
  constructor
  · obtain ⟨h1, h2 | ⟨g, cap, cur, rfl, a1, a2, a3⟩⟩ := hr
    · exact ⟨h1, .inl h2⟩
    · exact ⟨h1, .inr ⟨g, cap, cur, rfl, a1, hk _ _ a2 (.inl rfl), a3⟩⟩
  · rcases hm with h | ⟨mb, D, rfl, h1, ⟨es, clock, hb, rest⟩, h3⟩
    · exact .inl h
    · exact .inr ⟨mb, D, rfl, h1, ⟨es, clock, hk _ _ hb (.inr rfl), rest⟩, h3⟩
/-- What adding a name turns: the finder's box, the list's row, the map; new blocks. -/
structure AddK (n0 fb : Nat) (lv mv : Value) (W W' : World) : Prop where
  below : Below n0 W W'
  kept : ∀ k o, W.heap[k]? = some o → k ≠ fb → some k ≠ lv.ownBlock → some k ≠ mapBlk mv → W'.heap[k]? = some o
/-- What is there behind: the new list and map, and where they lie. -/
structure Added (n0 fb j : Nat) (cs : Array Value) (lv mv : Value) (l : List ByteArray) (W W' : World) : Prop where
  fr : AddK n0 fb lv mv W W'
  got : ∃ lv' mv' cs', W'.heap[fb]? = some (.cells cs' 99 (0, 0)) ∧ cs'.size = cs.size ∧ cs'[j]? = some lv' ∧ cs'[j + 1]? = some mv' ∧ (∀ i, i ≠ j → i ≠ j + 1 → cs'[i]? = cs[i]?) ∧ Nm n0 W' lv' mv' l ∧
    (lv'.ownBlock = lv.ownBlock ∨ ∃ k, lv'.ownBlock = some k ∧ W.heap.size ≤ k) ∧ (mapBlk mv' = mapBlk mv ∨ ∃ k, mapBlk mv' = some k ∧ W.heap.size ≤ k)
theorem infoStr : (Tryz.prog.info? 9).map (fun i => (i.zero, i.size, i.bytes)) = some (some (.string ⟨#[]⟩), 1, 16) := by kernel_rfl
theorem memB_nil (s : ByteArray) : memB [] s = false := rfl

set_option maxHeartbeats 4000000 in
set_option maxRecDepth 1000000 in
theorem add_has (n0 fb j : Nat) (cs : Array Value) (lv mv : Value) (l : List ByteArray) (s : ByteArray) (hs : s.size ≤ 32) (W : World) (hb : W.heap[fb]? = some (.cells cs 99 (0, 0))) (hj : cs[j]? = some lv) (hj1 : cs[j + 1]? = some mv) (hn : Nm n0 W lv mv l) (hm : memB l s = true) :
    Calls Tryz.prog 26 #[.pointer (some ⟨fb, j, none⟩), .string s] W fun e w' => e = .returned (.bool false) ∧ Added n0 fb j cs lv mv (addL l s) W w' := by
  have hn' := hn
  obtain ⟨hr, h | ⟨mb, D, rfl, hge, hown, hD⟩⟩ := hn
  · rw [h.2, memB_nil] at hm; cases hm
  have hk := look_name hown hD s hs
  rw [hm] at hk
  have c1 : W.cell? ⟨fb, j + 1, none⟩ = some (.map (some mb)) := (cell_of_heap hb (j + 1)).trans hj1
  have HR : Hid (Added n0 fb j cs lv (.map (some mb)) (addL l s) W W) := by
    refine ⟨⟨Below.refl _ _, fun k o h _ _ _ => h⟩, lv, .map (some mb), cs, hb, rfl, hj, hj1, fun _ _ _ => rfl, ?_, .inl rfl, .inl rfl⟩
    unfold addL; rw [if_pos hm]; exact hn'
  clear hn' hr hge hown hD hb hj hj1 hm
  go_enter Tryz.func26, Tryz.ntmps26
  go_wp2
  go_ret
  exact ⟨rfl, HR.out⟩
end Go.Proofs.YthjjcmmonjajhaaGreatDoor
namespace Go.Proofs.YthjjcmmonjajhaaGreatDoor
open Go.RowKit Go.Sort Go.Maps
set_option linter.unusedVariables false

theorem set_same {cs : Array Value} {j : Nat} {v : Value} (h : j < cs.size) : (cs.setIfInBounds j v)[j]? = some v := by simp [h]
theorem map_ne_box {w : World} {k : TypeId} {R : Value → Option (DataW Unit × List MemPlace)} {b n : Nat} {D : DataW Unit} (h : w.ownsMap Tryz.prog k R b n D) {g : Nat} {cs : Array Value} {t : TypeId} {fr : Nat × Nat} (hg : w.heap[g]? = some (.cells cs t fr)) : b ≠ g := by
  rintro rfl
  obtain ⟨es, clock, hb, _⟩ := h
  rw [hb] at hg
  cases hg
theorem row_ne_map {w : World} {k e : TypeId} {R : Value → Option (DataW Unit × List MemPlace)} {b n base size m : Nat} {D : DataW Unit} {v : Value} {xs : List Value} (h : w.ownsMap Tryz.prog k R b n D) (hr : w.ownsRow base e size v m xs) : some b ≠ v.ownBlock := by
  obtain ⟨_, ⟨rfl, _⟩ | ⟨g, cap, cur, rfl, _, hg, _⟩⟩ := hr
  · simp [Value.ownBlock]
  · simp only [Value.ownBlock]
    intro e'
    cases e'
    exact map_ne_box h hg rfl
theorem map_some (mb : Nat) (w : World) : (binOp .eql 95 (.map (some mb)) (.map none)).run Tryz.prog w = .ok (.bool false) w := by kernel_rfl
theorem map_none (w : World) : (binOp .eql 95 (.map none) (.map none)).run Tryz.prog w = .ok (.bool true) w := by kernel_rfl
theorem names_append (l : List ByteArray) (s : ByteArray) : (l ++ [s]).map Value.string = l.map Value.string ++ [Value.string s] := by simp

set_option maxHeartbeats 4000000 in
set_option maxRecDepth 1000000 in
theorem add_new (n0 fb j : Nat) (cs : Array Value) (lv : Value) (mb : Nat) (l : List ByteArray) (s : ByteArray) (hs : s.size ≤ 32) (W : World) (hb : W.heap[fb]? = some (.cells cs 99 (0, 0))) (hj : cs[j]? = some lv) (hj1 : cs[j + 1]? = some (.map (some mb))) (hn : Nm n0 W lv (.map (some mb)) l) (hm : memB l s = false)
    (h0 : n0 ≤ W.heap.size) (hge : n0 ≤ fb) (hl : l.length ≤ 4194304) :
    Calls Tryz.prog 26 #[.pointer (some ⟨fb, j, none⟩), .string s] W fun e w' => e = .returned (.bool true) ∧ Added n0 fb j cs lv (.map (some mb)) (l ++ [s]) W w' := by
  obtain ⟨i0, hi, hz0, hz1, hz2⟩ := info_parts infoStr
  obtain ⟨hr, h | ⟨mb', D, e, hgm, hown, hD⟩⟩ := hn
  · cases h.1
  cases e
  have hk := look_name hown hD s hs
  rw [hm] at hk
  have hfl := lt_of_heap hb
  have hms := map_some mb
  have c1 : W.cell? ⟨fb, j + 1, none⟩ = some (.map (some mb)) := (cell_of_heap hb (j + 1)).trans hj1
  have HOW := Lib.hid hown
  have HRW := Lib.hid hr
  have HD := Lib.hid hD
  have HB := Lib.hid hb
  have HJ := Lib.hid hj
  have HJ1 := Lib.hid hj1
  have HNF := Lib.hid (map_ne_box hown hb)
  have HNR := Lib.hid (row_ne_map hown hr)
  have HRF := Lib.hid (own_ne_box hr hb (by decide))
  have HL := Lib.hid hl
  obtain ⟨la, lc, rfl⟩ := own_shape hr
  clear hr hown hD hb hj hj1 hm hl
  go_enter Tryz.func26, Tryz.ntmps26
  go_wp2_with (first
    | (at_mapUpdate; refine wpList_mapUpdate_own _ rfl _ _ _ 95 rfl 9 4 lawStr Tryz.underlying95 (plainElem Tryz.prog 4) mb l.length D rfl HOW.out (by have := HL.out; unfold maxLen; omega) _ _ _ rfl rfl (WideMaps.keyOf_string_mk Tryz.underlying9 (s := s) (by unfold maxLen; omega)) (litB true) [] (plainElem_bool Tryz.underlying4 true) ?_
       intro w1 hown1 hgrow1
       have HO1 := Lib.hid hown1
       have HG1 := Lib.hid hgrow1
       have HB1 := Lib.hid ((hgrow1.block fb hfl (fun e => HNF.out (Option.some.inj e).symm)).trans HB.out)
       have HR1 := Lib.hid (HRW.out.kept hgrow1 (.inr (fun e => HNR.out e.symm)))
       have d0 : w1.cell? ⟨fb, j, none⟩ = some (.slice la l.length lc) := (cell_of_heap HB1.out j).trans HJ.out
       clear hown1 hgrow1 c1 hk)
    | (at_builtin; refine wpList_append_own_at _ rfl _ _ 59 rfl n0 9 i0 (.string ⟨#[]⟩) 1 16 Tryz.underlying59 hi hz0 hz1 hz2 rfl (by decide) _ _ _ rfl (HR1.out.alloc _) ⟨w1.heap.size, 0, none⟩ 1 1 [.string s] rfl rfl (cell_one_new _ _ _) (by intro u hu; simp at hu; subst hu; rfl) (by have := HL.out; unfold maxLen; omega) (by have := HL.out; omega) (by rw [World.size_alloc]; have := HG1.out.size; omega) ?_
       intro v' w2 hown' hgrow hx hat
       clear hx
       obtain ⟨g', cap', rfl⟩ := ownsRow_succ' hown'
       have HB2 := Lib.hid ((hgrow.block fb (by rw [World.size_alloc]; have := HG1.out.size; omega) HRF.out).trans ((Below.heap_alloc w1 _ fb (by have := HG1.out.size; omega)).trans HB1.out))
       have d1 : w2.cell? ⟨fb, j, none⟩ = some (.slice la l.length lc) := (cell_of_heap HB2.out j).trans HJ.out
       have f1 : w2.frozen? ⟨fb, j, none⟩ = false := free_of_heap HB2.out j
       have HG2 := Lib.hid hgrow
       have HO2 := Lib.hid hown'
       have HAT := Lib.hid hat
       clear hgrow hown' hat d0))
  go_ret
  have hs1 := HG1.out.size
  have hs2 := HG2.out.size
  rw [World.size_alloc] at hs2
  have hjl : j < cs.size := by
    rcases Nat.lt_or_ge j cs.size with h | h
    · exact h
    · have := HJ.out; rw [Array.getElem?_eq_none h] at this; cases this
  have hrow1 : ∀ k, (Value.slice la l.length lc).ownBlock = some k → n0 ≤ k := fun k hk => own_ge HRW.out hk
  refine ⟨rfl, ⟨⟨?_, ?_⟩, .slice (some ⟨g', 0, none⟩) (l.length + 1) cap', .map (some mb), cs.setIfInBounds j (.slice (some ⟨g', 0, none⟩) (l.length + 1) cap'), heap_set HB2.out j _, by simp, set_same hjl, ?_, ?_, ⟨?_, ?_⟩, ?_, .inl rfl⟩⟩
  · refine (((((Below.refl n0 W).grown HG1.out h0 (fun k hk => by cases hk; exact hgm)).alloc (by omega) _).grown HG2.out (by rw [World.size_alloc]; omega) hrow1)).setCell (p := ⟨fb, j, none⟩) hge _
  · intro k o hk h1 h2 h3
    have hkl := lt_of_heap hk
    rw [Below.heap_setCell _ _ _ k h1, HG2.out.block k (by rw [World.size_alloc]; omega) h2, Below.heap_alloc w1 _ k (by omega), HG1.out.block k hkl (fun e => h3 e)]
    exact hk
  · rw [Array.getElem?_setIfInBounds_ne (by omega)]; exact HJ1.out
  · intro i h1 h2
    rw [Array.getElem?_setIfInBounds_ne (fun e => h1 e.symm)]
  · have := HO2.out.kept (grown_set w2 fb j (.slice (some ⟨g', 0, none⟩) (l.length + 1) cap')) (.inr (fun e => own_ne_box HO2.out HB2.out (by decide) e.symm))
    rw [names_append, List.length_append]
    exact this
  · refine .inr ⟨mb, _, rfl, hgm, ?_, HD.out.put s⟩
    rw [List.length_append]
    exact ((HO1.out.kept (World.grownBy_alloc w1 _ none) (by simp)).kept HG2.out HNR.out).setCell (a := ⟨fb, j, none⟩) HNF.out _
  · rcases HAT.out with h | h
    · exact .inl h
    · refine .inr ⟨_, h, ?_⟩
      rw [World.size_alloc]; omega

set_option maxHeartbeats 4000000 in
set_option maxRecDepth 1000000 in
theorem add_first (n0 fb j : Nat) (cs : Array Value) (lv : Value) (s : ByteArray) (hs : s.size ≤ 32) (W : World) (hb : W.heap[fb]? = some (.cells cs 99 (0, 0))) (hj : cs[j]? = some lv) (hj1 : cs[j + 1]? = some (.map none)) (hn : Nm n0 W lv (.map none) [])
    (h0 : n0 ≤ W.heap.size) (hge : n0 ≤ fb) :
    Calls Tryz.prog 26 #[.pointer (some ⟨fb, j, none⟩), .string s] W fun e w' => e = .returned (.bool true) ∧ Added n0 fb j cs lv (.map none) ([] ++ [s]) W w' := by
  obtain ⟨i0, hi, hz0, hz1, hz2⟩ := info_parts infoStr
  obtain ⟨hr, _⟩ := hn
  have hfl := lt_of_heap hb
  have hmn := map_none
  have hmm := @run_makeMap Tryz.prog
  have hkn := fun w => look_nil_name w s hs
  have c1 : W.cell? ⟨fb, j + 1, none⟩ = some (.map none) := (cell_of_heap hb (j + 1)).trans hj1
  have c2 : W.frozen? ⟨fb, j + 1, none⟩ = false := free_of_heap hb _
  have hsz : (W.setCell ⟨fb, j + 1, none⟩ (.map (some W.heap.size))).heap.size = W.heap.size := by simp [World.setCell]
  have HA2 : Hid (((W.setCell ⟨fb, j + 1, none⟩ (.map (some W.heap.size))).alloc (.map #[] 0)).heap[fb]? = some (.cells (cs.setIfInBounds (j + 1) (.map (some W.heap.size))) 99 (0, 0))) := (Below.heap_alloc _ _ fb (by rw [hsz]; exact hfl)).trans (heap_set hb (j + 1) _)
  have HOW : Hid (((W.setCell ⟨fb, j + 1, none⟩ (.map (some W.heap.size))).alloc (.map #[] 0)).ownsMap Tryz.prog 9 (plainElem Tryz.prog 4) W.heap.size 0 (.map [] : DataW Unit)) :=
    by have := World.ownsMap_made (H := Unit) (W.setCell ⟨fb, j + 1, none⟩ (.map (some W.heap.size))) Tryz.prog 9 (plainElem Tryz.prog 4)
       rw [hsz] at this; exact this
  have HS2 : Hid (((W.setCell ⟨fb, j + 1, none⟩ (.map (some W.heap.size))).alloc (.map #[] 0)).heap.size = W.heap.size + 1) := by show _ = _; rw [World.size_alloc, hsz]
  have HRW0 := Lib.hid hr
  have HRW : Hid (((W.setCell ⟨fb, j + 1, none⟩ (.map (some W.heap.size))).alloc (.map #[] 0)).ownsRow n0 9 1 lv ([] : List ByteArray).length (([] : List ByteArray).map Value.string)) :=
    (hr.kept (grown_set _ fb (j + 1) _) (.inr (fun e => own_ne_box hr hb (by decide) e.symm))).alloc _
  have HB := Lib.hid hb
  have HJ := Lib.hid hj
  have HRF := Lib.hid (own_ne_box hr hb (by decide))
  have hjn : j ≠ j + 1 := by omega
  have HJ2 : Hid ((cs.setIfInBounds (j + 1) (.map (some W.heap.size)))[j]? = some lv) := by show _ = _; rw [Array.getElem?_setIfInBounds_ne (by omega)]; exact hj
  have hjl1 : j + 1 < cs.size := by
    rcases Nat.lt_or_ge (j + 1) cs.size with h | h
    · exact h
    · rw [Array.getElem?_eq_none h] at hj1; cases hj1
  have HJL := Lib.hid hjl1
  obtain ⟨la, lc, rfl⟩ := own_shape hr
  clear hr hb hj hj1 hjn hjl1 hsz
  go_enter Tryz.func26, Tryz.ntmps26
  go_wp2_with (first
    | (at_mapUpdate; refine wpList_mapUpdate_own _ rfl _ _ _ 95 rfl 9 4 lawStr Tryz.underlying95 (plainElem Tryz.prog 4) W.heap.size 0 (.map []) rfl HOW.out (by unfold maxLen; omega) _ _ _ rfl rfl (WideMaps.keyOf_string_mk Tryz.underlying9 (s := s) (by unfold maxLen; omega)) (litB true) [] (plainElem_bool Tryz.underlying4 true) ?_
       intro w1 hown1 hgrow1
       have HO1 := Lib.hid hown1
       have HG1 := Lib.hid hgrow1
       have HB1 := Lib.hid ((hgrow1.block fb (by rw [HS2.out]; omega) (fun e => map_ne_box HOW.out HA2.out (Option.some.inj e).symm)).trans HA2.out)
       have HR1 := Lib.hid (HRW.out.kept hgrow1 (.inr (fun e => row_ne_map HOW.out HRW.out e.symm)))
       have d0 : w1.cell? ⟨fb, j, none⟩ = some (.slice la ([] : List ByteArray).length lc) := (cell_of_heap HB1.out j).trans HJ2.out
       clear hown1 hgrow1 c1 c2)
    | (at_builtin; refine wpList_append_own_at _ rfl _ _ 59 rfl n0 9 i0 (.string ⟨#[]⟩) 1 16 Tryz.underlying59 hi hz0 hz1 hz2 rfl (by decide) _ _ _ rfl (HR1.out.alloc _) ⟨w1.heap.size, 0, none⟩ 1 1 [.string s] rfl rfl (cell_one_new _ _ _) (by intro u hu; simp at hu; subst hu; rfl) (by unfold maxLen; simp) (by simp) (by rw [World.size_alloc]; have := HG1.out.size; rw [HS2.out] at this; omega) ?_
       intro v' w2 hown' hgrow hx hat
       clear hx
       obtain ⟨g', cap', rfl⟩ := ownsRow_succ' hown'
       have HB2 := Lib.hid ((hgrow.block fb (by rw [World.size_alloc]; have := HG1.out.size; rw [HS2.out] at this; omega) HRF.out).trans ((Below.heap_alloc w1 _ fb (by have := HG1.out.size; rw [HS2.out] at this; omega)).trans HB1.out))
       have d1 : w2.cell? ⟨fb, j, none⟩ = some (.slice la ([] : List ByteArray).length lc) := (cell_of_heap HB2.out j).trans HJ2.out
       have f1 : w2.frozen? ⟨fb, j, none⟩ = false := free_of_heap HB2.out j
       have HG2 := Lib.hid hgrow
       have HO2 := Lib.hid hown'
       have HAT := Lib.hid hat
       clear hgrow hown' hat d0))
  go_ret
  have hs1 := HG1.out.size
  rw [HS2.out] at hs1
  have hs2 := HG2.out.size
  rw [World.size_alloc] at hs2
  have hjl : j < cs.size := by have := HJL.out; omega
  have hrow1 : ∀ k, (Value.slice la ([] : List ByteArray).length lc).ownBlock = some k → n0 ≤ k := fun k hk => own_ge HRW0.out hk
  have hz : ((W.setCell ⟨fb, j + 1, none⟩ (.map (some W.heap.size))).heap.size) = W.heap.size := by simp [World.setCell]
  refine ⟨rfl, ⟨⟨?_, ?_⟩, .slice (some ⟨g', 0, none⟩) (([] : List ByteArray).length + 1) cap', .map (some W.heap.size), (cs.setIfInBounds (j + 1) (.map (some W.heap.size))).setIfInBounds j (.slice (some ⟨g', 0, none⟩) (([] : List ByteArray).length + 1) cap'), heap_set HB2.out j _, by simp, set_same (by simpa using hjl), ?_, ?_, ⟨?_, ?_⟩, ?_, .inr ⟨_, rfl, Nat.le_refl _⟩⟩⟩
  · refine (((((((Below.refl n0 W).setCell (p := ⟨fb, j + 1, none⟩) hge (.map (some W.heap.size))).alloc (by rw [hz]; exact h0) (.map #[] 0)).grown HG1.out (by rw [HS2.out]; omega) (fun k hk => by cases hk; exact h0)).alloc (by omega) _).grown HG2.out (by rw [World.size_alloc]; omega) hrow1)).setCell (p := ⟨fb, j, none⟩) hge _
  · intro k o hk h1 h2 h3
    have hkl := lt_of_heap hk
    rw [Below.heap_setCell _ _ _ k h1, HG2.out.block k (by rw [World.size_alloc]; omega) h2, Below.heap_alloc w1 _ k (by omega), HG1.out.block k (by rw [HS2.out]; omega) (fun e => by have := Option.some.inj e; omega), Below.heap_alloc _ _ k (by rw [hz]; exact hkl), Below.heap_setCell _ _ _ k h1]
    exact hk
  · rw [Array.getElem?_setIfInBounds_ne (by omega), set_same HJL.out]
  · intro i h1 h2
    rw [Array.getElem?_setIfInBounds_ne (fun e => h1 e.symm), Array.getElem?_setIfInBounds_ne (fun e => h2 e.symm)]
  · have := HO2.out.kept (grown_set w2 fb j (.slice (some ⟨g', 0, none⟩) (([] : List ByteArray).length + 1) cap')) (.inr (fun e => own_ne_box HO2.out HB2.out (by decide) e.symm))
    exact this
  · refine .inr ⟨W.heap.size, _, rfl, h0, ?_, setIs_empty.put s⟩
    exact ((HO1.out.kept (World.grownBy_alloc w1 _ none) (by simp)).kept HG2.out (row_ne_map HOW.out HRW.out)).setCell (a := ⟨fb, j, none⟩) (by show W.heap.size ≠ fb; omega) _
  · rcases HAT.out with h | h
    · exact .inl h
    · refine .inr ⟨_, h, ?_⟩
      rw [World.size_alloc]; omega

/-- add: a name, once. -/
theorem add_r (n0 fb j : Nat) (cs : Array Value) (lv mv : Value) (l : List ByteArray) (s : ByteArray) (hs : s.size ≤ 32) (W : World) (hb : W.heap[fb]? = some (.cells cs 99 (0, 0))) (hj : cs[j]? = some lv) (hj1 : cs[j + 1]? = some mv) (hn : Nm n0 W lv mv l)
    (h0 : n0 ≤ W.heap.size) (hge : n0 ≤ fb) (hl : l.length ≤ 4194304) :
    Calls Tryz.prog 26 #[.pointer (some ⟨fb, j, none⟩), .string s] W fun e w' => e = .returned (.bool (!memB l s)) ∧ Added n0 fb j cs lv mv (addL l s) W w' := by
  cases hm : memB l s with
  | true => exact add_has n0 fb j cs lv mv l s hs W hb hj hj1 hn hm
  | false =>
    have e : addL l s = l ++ [s] := by unfold addL; rw [if_neg (by rw [hm]; decide)]
    rw [e]
    rcases hn.map with ⟨rfl, rfl⟩ | ⟨mb, D, rfl, _⟩
    · exact add_first n0 fb j cs lv s hs W hb hj hj1 hn h0 hge
    · exact add_new n0 fb j cs lv mb l s hs W hb hj hj1 hn hm h0 hge hl
end Go.Proofs.YthjjcmmonjajhaaGreatDoor
namespace Go.Proofs.YthjjcmmonjajhaaGreatDoor
open Go.RowKit Go.Sort Go.Maps
set_option linter.unusedVariables false

/-- What has been found of a function. -/
structure FS where
  vars : List ByteArray
  arrays : List ByteArray
  made : List ByteArray
  wrong : Bool
theorem Nm.row_at {n0 : Nat} {W : World} {lv mv : Value} {l : List ByteArray} (h : Nm n0 W lv mv l) {k : Nat} (hk : lv.ownBlock = some k) : ∃ cs fr, W.heap[k]? = some (.cells cs 9 fr) := by
  obtain ⟨⟨_, ⟨rfl, _⟩ | ⟨g, cap, cur, rfl, _, hg, _⟩⟩, _⟩ := h
  · simp [Value.ownBlock] at hk
  · simp only [Value.ownBlock, Option.some.injEq] at hk
    subst hk
    exact ⟨_, _, hg⟩
theorem Nm.map_at {n0 : Nat} {W : World} {lv mv : Value} {l : List ByteArray} (h : Nm n0 W lv mv l) {k : Nat} (hk : mapBlk mv = some k) : ∃ es c, W.heap[k]? = some (.map es c) := by
  obtain ⟨_, ⟨rfl, _⟩ | ⟨mb, D, rfl, _, ⟨es, clock, hb, _⟩, _⟩⟩ := h
  · simp [mapBlk] at hk
  · simp only [mapBlk, Option.some.injEq] at hk
    subst hk
    exact ⟨_, _, hb⟩
/-- Two lists of names lie apart. -/
def Apt (l m l' m' : Value) : Prop := (∀ k, l.ownBlock = some k → l'.ownBlock ≠ some k) ∧ ∀ k, mapBlk m = some k → mapBlk m' ≠ some k
theorem Apt.symm {l m l' m' : Value} (h : Apt l m l' m') : Apt l' m' l m := ⟨fun k h1 h2 => h.1 k h2 h1, fun k h1 h2 => h.2 k h2 h1⟩
theorem other_stays {n0 fb : Nat} {lv mv l1 m1 : Value} {x : List ByteArray} {W W' : World} {cs : Array Value} (hk : AddK n0 fb lv mv W W') (hn : Nm n0 W l1 m1 x) (ha : Apt lv mv l1 m1) (hl : ∀ k, lv.ownBlock = some k → ∃ cs fr, W.heap[k]? = some (.cells cs 9 fr)) (hm : ∀ k, mapBlk mv = some k → ∃ es c, W.heap[k]? = some (.map es c)) (hb : W.heap[fb]? = some (.cells cs 99 (0, 0))) : Nm n0 W' l1 m1 x := by
  refine hn.stay hk.below.size (fun k o ho h => ?_)
  rcases h with h | h
  · obtain ⟨cs1, fr1, h1⟩ := hn.row_at h.symm
    refine hk.kept k o ho ?_ ?_ ?_
    · rintro rfl
      rw [hb] at h1; injection h1 with h1; injection h1 with _ h2 _; exact absurd h2 (by decide)
    · intro e; exact ha.1 k e.symm h.symm
    · intro e
      obtain ⟨es, c, h2⟩ := hm k e.symm
      rw [h2] at h1; cases h1
  · obtain ⟨es, c, h1⟩ := hn.map_at h.symm
    refine hk.kept k o ho ?_ ?_ ?_
    · rintro rfl
      rw [hb] at h1; cases h1
    · intro e
      obtain ⟨cs1, fr1, h2⟩ := hl k e.symm
      rw [h2] at h1; cases h1
    · intro e; exact ha.2 k e.symm h.symm
theorem Apt.new {n0 : Nat} {lv mv l1 m1 lv' mv' : Value} {x : List ByteArray} {W : World} (hn : Nm n0 W l1 m1 x) (ha : Apt lv mv l1 m1) (h1 : lv'.ownBlock = lv.ownBlock ∨ ∃ k, lv'.ownBlock = some k ∧ W.heap.size ≤ k) (h2 : mapBlk mv' = mapBlk mv ∨ ∃ k, mapBlk mv' = some k ∧ W.heap.size ≤ k) : Apt lv' mv' l1 m1 := by
  constructor
  · intro k hk
    rcases h1 with h | ⟨k', h, hle⟩
    · exact ha.1 k (h ▸ hk)
    · intro e
      obtain ⟨cs, fr, hh⟩ := hn.row_at e
      have := lt_of_heap hh
      rw [h] at hk
      have := Option.some.inj hk
      omega
  · intro k hk
    rcases h2 with h | ⟨k', h, hle⟩
    · exact ha.2 k (h ▸ hk)
    · intro e
      obtain ⟨es, c, hh⟩ := hn.map_at e
      have := lt_of_heap hh
      rw [h] at hk
      have := Option.some.inj hk
      omega
/-- What the finder may turn: her own box, rows of names, maps; new blocks; nothing below a mark. -/
structure Fk (n0 fb : Nat) (W W' : World) : Prop where
  below : Below n0 W W'
  kept : ∀ k o, W.heap[k]? = some o → k ≠ fb → (∀ cs fr, o ≠ .cells cs 9 fr) → (∀ es c, o ≠ .map es c) → W'.heap[k]? = some o
theorem Fk.refl (n0 fb : Nat) (W : World) : Fk n0 fb W W := ⟨Below.refl _ _, fun _ _ h _ _ _ => h⟩
theorem Fk.trans {n0 fb : Nat} {a b c : World} (h : Fk n0 fb a b) (k : Fk n0 fb b c) : Fk n0 fb a c :=
  ⟨h.below.trans k.below, fun i o hi hne h1 h2 => k.kept i o (h.kept i o hi hne h1 h2) hne h1 h2⟩
theorem Fk.of_below {n0 fb : Nat} {a b : World} (hn : n0 ≤ a.heap.size) (h : Below a.heap.size a b) : Fk n0 fb a b :=
  ⟨h.mono hn, fun k o hk _ _ _ => (h.block k (lt_of_heap hk)).trans hk⟩
theorem Fk.size {n0 fb : Nat} {a b : World} (h : Fk n0 fb a b) : a.heap.size ≤ b.heap.size := h.below.size
/-- A new box is kept. -/
theorem Fk.box {n0 fb : Nat} {a b : World} {cs : Array Value} {t : TypeId} (h : Fk n0 fb (a.alloc (.cells cs t)) b) (hlt : fb < a.heap.size) (ht : t ≠ 9) : b.heap[a.heap.size]? = some (.cells cs t (0, 0)) :=
  h.kept _ _ (heap_alloc_new a _) (by omega) (fun cs' fr e => by injection e with _ h2 _; exact ht h2) (fun es c e => by cases e)
/-- The finder. -/
structure Fd (n0 : Nat) (W : World) (fb : Nat) (cv : Value) (st : FS) : Prop where
  ge : n0 ≤ fb
  box : ∃ l0 m0 l1 m1 l2 m2, W.heap[fb]? = some (.cells #[l0, m0, l1, m1, l2, m2, .bool st.wrong, cv] 99 (0, 0)) ∧ (Nm n0 W l0 m0 st.vars ∧ Nm n0 W l1 m1 st.arrays ∧ Nm n0 W l2 m2 st.made) ∧ Apt l0 m0 l1 m1 ∧ Apt l0 m0 l2 m2 ∧ Apt l1 m1 l2 m2
theorem Fd.lt {n0 : Nat} {W : World} {fb : Nat} {cv : Value} {st : FS} (h : Fd n0 W fb cv st) : fb < W.heap.size := by
  obtain ⟨_, _, _, _, _, _, _, hb, _⟩ := h; exact lt_of_heap hb
theorem Fd.stay {n0 : Nat} {W W' : World} {fb : Nat} {cv : Value} {st : FS} (h : Fd n0 W fb cv st) (hb : Below W.heap.size W W') : Fd n0 W' fb cv st := by
  obtain ⟨hg, l0, m0, l1, m1, l2, m2, hx, ⟨n1, n2, n3⟩, ha⟩ := h
  have hk : ∀ k o, W.heap[k]? = some o → W'.heap[k]? = some o := fun k o hk => (hb.block k (lt_of_heap hk)).trans hk
  exact ⟨hg, l0, m0, l1, m1, l2, m2, hk _ _ hx, ⟨n1.stay hb.size fun k o h _ => hk k o h, n2.stay hb.size fun k o h _ => hk k o h, n3.stay hb.size fun k o h _ => hk k o h⟩, ha⟩
theorem AddK.fk {n0 fb : Nat} {lv mv : Value} {W W' : World} (hk : AddK n0 fb lv mv W W') (hl : ∀ k, lv.ownBlock = some k → ∃ cs fr, W.heap[k]? = some (.cells cs 9 fr)) (hm : ∀ k, mapBlk mv = some k → ∃ es c, W.heap[k]? = some (.map es c)) : Fk n0 fb W W' := by
  refine ⟨hk.below, fun k o ho h1 h2 h3 => hk.kept k o ho h1 ?_ ?_⟩
  · intro e
    obtain ⟨cs, fr, h⟩ := hl k e.symm
    rw [ho] at h
    exact h2 cs fr (Option.some.inj h)
  · intro e
    obtain ⟨es, c, h⟩ := hm k e.symm
    rw [ho] at h
    exact h3 es c (Option.some.inj h)
theorem arr8 {cs : Array Value} {v0 v1 v2 v3 v4 v5 v6 v7 : Value} (hz : cs.size = 8) (h0 : cs[0]? = some v0) (h1 : cs[1]? = some v1) (h2 : cs[2]? = some v2) (h3 : cs[3]? = some v3) (h4 : cs[4]? = some v4) (h5 : cs[5]? = some v5) (h6 : cs[6]? = some v6) (h7 : cs[7]? = some v7) : cs = #[v0, v1, v2, v3, v4, v5, v6, v7] := by
  apply Array.ext_getElem?
  intro i
  rcases Nat.lt_or_ge i 8 with h | h
  · have : i = 0 ∨ i = 1 ∨ i = 2 ∨ i = 3 ∨ i = 4 ∨ i = 5 ∨ i = 6 ∨ i = 7 := by omega
    rcases this with rfl | rfl | rfl | rfl | rfl | rfl | rfl | rfl
    · exact h0
    · exact h1
    · exact h2
    · exact h3
    · exact h4
    · exact h5
    · exact h6
    · exact h7
  · rw [Array.getElem?_eq_none (by omega), Array.getElem?_eq_none (by simpa using h)]
theorem fadd0 (n0 fb : Nat) (cv : Value) (st : FS) (s : ByteArray) (hs : s.size ≤ 32) (W : World) (hf : Fd n0 W fb cv st) (h0 : n0 ≤ W.heap.size) (hl : st.vars.length ≤ 4194304) :
    Calls Tryz.prog 26 #[.pointer (some ⟨fb, 0, none⟩), .string s] W fun e w' => e = .returned (.bool (!memB st.vars s)) ∧ Fk n0 fb W w' ∧ Fd n0 w' fb cv { st with vars := addL st.vars s } := by
  obtain ⟨hg, l0, m0, l1, m1, l2, m2, hx, ⟨n1, n2, n3⟩, a1, a2, a3⟩ := hf
  refine (add_r n0 fb 0 _ l0 m0 st.vars s hs W hx rfl rfl n1 h0 hg hl).mono ?_
  rintro e w' ⟨rfl, hk, lv', mv', cs', hb, hz, hj, hj1, ho, hn, hl1, hm1⟩
  refine ⟨rfl, hk.fk (fun k h => n1.row_at h) (fun k h => n1.map_at h), hg, lv', mv', l1, m1, l2, m2, ?_, ⟨hn, other_stays hk n2 a1 (fun k h => n1.row_at h) (fun k h => n1.map_at h) hx, other_stays hk n3 a2 (fun k h => n1.row_at h) (fun k h => n1.map_at h) hx⟩, a1.new n2 hl1 hm1, a2.new n3 hl1 hm1, a3⟩
  have e := arr8 hz hj hj1 (ho 2 (by omega) (by omega)) (ho 3 (by omega) (by omega)) (ho 4 (by omega) (by omega)) (ho 5 (by omega) (by omega)) (ho 6 (by omega) (by omega)) (ho 7 (by omega) (by omega))
  subst e
  exact hb
theorem fadd1 (n0 fb : Nat) (cv : Value) (st : FS) (s : ByteArray) (hs : s.size ≤ 32) (W : World) (hf : Fd n0 W fb cv st) (h0 : n0 ≤ W.heap.size) (hl : st.arrays.length ≤ 4194304) :
    Calls Tryz.prog 26 #[.pointer (some ⟨fb, 2, none⟩), .string s] W fun e w' => e = .returned (.bool (!memB st.arrays s)) ∧ Fk n0 fb W w' ∧ Fd n0 w' fb cv { st with arrays := addL st.arrays s } := by
  obtain ⟨hg, l0, m0, l1, m1, l2, m2, hx, ⟨n1, n2, n3⟩, a1, a2, a3⟩ := hf
  refine (add_r n0 fb 2 _ l1 m1 st.arrays s hs W hx rfl rfl n2 h0 hg hl).mono ?_
  rintro e w' ⟨rfl, hk, lv', mv', cs', hb, hz, hj, hj1, ho, hn, hl1, hm1⟩
  refine ⟨rfl, hk.fk (fun k h => n2.row_at h) (fun k h => n2.map_at h), hg, l0, m0, lv', mv', l2, m2, ?_, ⟨other_stays hk n1 a1.symm (fun k h => n2.row_at h) (fun k h => n2.map_at h) hx, hn, other_stays hk n3 a3 (fun k h => n2.row_at h) (fun k h => n2.map_at h) hx⟩, (a1.symm.new n1 hl1 hm1).symm, a2, a3.new n3 hl1 hm1⟩
  have e := arr8 hz (ho 0 (by omega) (by omega)) (ho 1 (by omega) (by omega)) hj hj1 (ho 4 (by omega) (by omega)) (ho 5 (by omega) (by omega)) (ho 6 (by omega) (by omega)) (ho 7 (by omega) (by omega))
  subst e
  exact hb
theorem fadd2 (n0 fb : Nat) (cv : Value) (st : FS) (s : ByteArray) (hs : s.size ≤ 32) (W : World) (hf : Fd n0 W fb cv st) (h0 : n0 ≤ W.heap.size) (hl : st.made.length ≤ 4194304) :
    Calls Tryz.prog 26 #[.pointer (some ⟨fb, 4, none⟩), .string s] W fun e w' => e = .returned (.bool (!memB st.made s)) ∧ Fk n0 fb W w' ∧ Fd n0 w' fb cv { st with made := addL st.made s } := by
  obtain ⟨hg, l0, m0, l1, m1, l2, m2, hx, ⟨n1, n2, n3⟩, a1, a2, a3⟩ := hf
  refine (add_r n0 fb 4 _ l2 m2 st.made s hs W hx rfl rfl n3 h0 hg hl).mono ?_
  rintro e w' ⟨rfl, hk, lv', mv', cs', hb, hz, hj, hj1, ho, hn, hl1, hm1⟩
  refine ⟨rfl, hk.fk (fun k h => n3.row_at h) (fun k h => n3.map_at h), hg, l0, m0, l1, m1, lv', mv', ?_, ⟨other_stays hk n1 a2.symm (fun k h => n3.row_at h) (fun k h => n3.map_at h) hx, other_stays hk n2 a3.symm (fun k h => n3.row_at h) (fun k h => n3.map_at h) hx, hn⟩, a1, (a2.symm.new n1 hl1 hm1).symm, (a3.symm.new n2 hl1 hm1).symm⟩
  have e := arr8 hz (ho 0 (by omega) (by omega)) (ho 1 (by omega) (by omega)) (ho 2 (by omega) (by omega)) (ho 3 (by omega) (by omega)) hj hj1 (ho 6 (by omega) (by omega)) (ho 7 (by omega) (by omega))
  subst e
  exact hb
end Go.Proofs.YthjjcmmonjajhaaGreatDoor
namespace Go.Proofs.YthjjcmmonjajhaaGreatDoor
open Go.RowKit Go.Sort Go.Maps
set_option linter.unusedVariables false

/-- A function's parameters, by its name. -/
def paramOf (fs : List FT) (s : ByteArray) : Option Nat := (fs.find? fun f => s.toList == f.name.toList).map (·.params.length)
def callB (fs : List FT) (s : ByteArray) (n : Nat) : Bool := paramOf fs s == some n
def litN (n : Int) : DataW Unit := .lit (.int .i64 n)
/-- A map says just how many parameters each function has. -/
def ParIs (D : DataW Unit) (fs : List FT) : Prop := IsMap D ∧ ∀ s : ByteArray, Maps.has D (keyL s) = (paramOf fs s).isSome ∧ D.atKey (keyL s) (litN 0) = litN (((paramOf fs s).getD 0 : Nat) : Int)
theorem parIs_empty : ParIs (.map []) [] := ⟨isMap_empty, fun s => ⟨rfl, rfl⟩⟩
theorem ParIs.put {D : DataW Unit} {fs : List FT} (h : ParIs D fs) (f : FT) (hn : paramOf fs f.name = none) : ParIs (D.put (keyL f.name) (litN f.params.length)) (fs ++ [f]) := by
  refine ⟨h.1.put _ _, fun t => ?_⟩
  have e : paramOf (fs ++ [f]) t = (paramOf fs t).or (if t.toList == f.name.toList then some f.params.length else none) := by
    unfold paramOf
    rw [List.find?_append]
    cases hh : fs.find? (fun f => t.toList == f.name.toList) with
    | some x => simp
    | none => by_cases hx : t.toList == f.name.toList <;> simp [hx]
  rw [e]
  by_cases hts : t.toList = f.name.toList
  · have hk : keyL t = keyL f.name := by
      unfold keyL
      rw [ByteArray.toList_eq, ByteArray.toList_eq] at hts
      rw [hts]
    have hp : paramOf fs t = none := by
      have : paramOf fs t = paramOf fs f.name := by unfold paramOf; rw [hts]
      rw [this, hn]
    rw [hk, has_put_same h.1 (by simp [WideAt.IsKeyLit, keyL]) _, atKey_put_same h.1 (by simp [WideAt.IsKeyLit, keyL]) _ _, hp, hts]
    simp
  · have hk : keyL t ≠ keyL f.name := by
      intro h'
      unfold keyL at h'
      injection h' with h'
      rw [ByteArray.toList_eq, ByteArray.toList_eq] at hts
      exact hts h'
    have hf : (t.toList == f.name.toList) = false := by simpa using hts
    rw [has_put_other hk, atKey_put_other hk, hf]
    have := h.2 t
    simpa using this
theorem zeroInt' (w : World) : (zeroValue 3).run Tryz.prog w = .ok (.int .i64 0) w := by kernel_rfl
/-- The closure's variable, and the map. -/
def PmAt (w : World) (pb pm n : Nat) (fs : List FT) : Prop := w.cell? ⟨pb, 0, none⟩ = some (.map (some pm)) ∧ ∃ D, w.ownsMap Tryz.prog 9 (plainElem Tryz.prog 3) pm n D ∧ ParIs D fs
theorem PmAt.stay {w w' : World} {pb pm n : Nat} {fs : List FT} (h : PmAt w pb pm n fs) (hb : Below w.heap.size w w') : PmAt w' pb pm n fs := by
  obtain ⟨h1, D, h2, h3⟩ := h
  exact ⟨(hb.cell (p := ⟨pb, 0, none⟩) (lt_of_cell h1)).trans h1, D, h2.kept (grown_of_below hb) (by simp), h3⟩

set_option maxHeartbeats 2000000 in
set_option maxRecDepth 1000000 in
theorem call_r (pb pm n : Nat) (fs : List FT) (s : ByteArray) (hs : s.size ≤ 32) (k : Nat) (w : World) (hp : PmAt w pb pm n fs) (q : Bool) (hq : callB fs s k = q) :
    Calls Tryz.prog 25 #[.string s, .int .i64 k, .pointer (some ⟨pb, 0, none⟩)] w fun e w' => e = .returned (.bool q) ∧ w' = w := by
  obtain ⟨c0, D, hown, hD⟩ := hp
  obtain ⟨h1, h2⟩ := hD.2 s
  have HOW := Lib.hid hown
  have HH := Lib.hid h1
  have H2 := Lib.hid h2
  unfold callB at hq
  generalize paramOf fs s = po at HH H2 hq
  clear hown h1 h2 hD
  cases po with
  | none =>
    obtain rfl : q = false := by rw [← hq]; rfl
    clear hq
    go_enter Tryz.func25, Tryz.ntmps25
    go_wp2_with (at_lookup; refine wpList_lookup_own_ok_int _ rfl _ _ 91 rfl 9 3 .i64 lawStr Tryz.underlying91 Tryz.underlying3 (zeroInt' _) pm n D rfl HOW.out _ _ rfl (WideMaps.keyOf_string_mk Tryz.underlying9 (s := s) (by unfold maxLen; omega)) ?_; intro c hat hwc; rw [show Maps.has D (.string s.data.toList) = false from HH.out])
    go_ret
    exact ⟨rfl, rfl⟩
  | some m =>
    have hx : (((m : Int) == (k : Int)) = true ∧ q = true) ∨ (((m : Int) == (k : Int)) = false ∧ q = false) := by
      by_cases h : m = k
      · subst h; exact .inl ⟨by simp, by rw [← hq]; simp⟩
      · refine .inr ⟨by simp; omega, by rw [← hq]; simpa using h⟩
    clear hq
    rcases hx with ⟨hx, rfl⟩ | ⟨hx, rfl⟩
    all_goals
      go_enter Tryz.func25, Tryz.ntmps25
      go_wp2_with (at_lookup; refine wpList_lookup_own_ok_int _ rfl _ _ 91 rfl 9 3 .i64 lawStr Tryz.underlying91 Tryz.underlying3 (zeroInt' _) pm n D rfl HOW.out _ _ rfl (WideMaps.keyOf_string_mk Tryz.underlying9 (s := s) (by unfold maxLen; omega)) ?_; intro c hat hwc; rw [show Maps.has D (.string s.data.toList) = true from HH.out]; obtain rfl : c = (m : Int) := by (have h' : litN c = litN m := hat.symm.trans H2.out); (unfold litN at h'); (injection h' with h'); (injection h' with _ h'))
      go_ret
      exact ⟨rfl, rfl⟩

/- What is found: plain functions. -/
mutual
def ET.gather (cl : ByteArray → Nat → Bool) : ET → FS → FS
  | .mk o n s l, st => ET.gatherL cl l (if o = 2 then { st with vars := addL st.vars s } else if o = 4 then { st with arrays := addL st.arrays s } else if o = 5 then { st with wrong := st.wrong || !cl s l.length } else st)
def ET.gatherL (cl : ByteArray → Nat → Bool) : List ET → FS → FS
  | [], st => st
  | e :: r, st => ET.gatherL cl r (ET.gather cl e st)
end
def ST.own (o : Int) (s : ByteArray) (st : FS) : FS :=
  if o = 3 then { st with made := addL st.made s, arrays := addL st.arrays s } else if o = 2 then { st with arrays := addL st.arrays s } else if o = 1 ∨ o = 4 then { st with vars := addL st.vars s } else st
mutual
def ST.gather (cl : ByteArray → Nat → Bool) : ST → FS → FS
  | .mk o n s l b e, st => ST.gatherL cl e (ST.gatherL cl b (ET.gatherL cl l (ST.own o s st)))
def ST.gatherL (cl : ByteArray → Nat → Bool) : List ST → FS → FS
  | [], st => st
  | e :: r, st => ST.gatherL cl r (ST.gather cl e st)
end
theorem ET.gatherL_append (cl : ByteArray → Nat → Bool) (l r : List ET) : ∀ st, ET.gatherL cl (l ++ r) st = ET.gatherL cl r (ET.gatherL cl l st) := by
  induction l with
  | nil => intro st; rfl
  | cons e l ih => intro st; simp only [List.cons_append, ET.gatherL]; exact ih _
theorem ST.gatherL_append (cl : ByteArray → Nat → Bool) (l r : List ST) : ∀ st, ST.gatherL cl (l ++ r) st = ST.gatherL cl r (ST.gatherL cl l st) := by
  induction l with
  | nil => intro st; rfl
  | cons e l ih => intro st; simp only [List.cons_append, ST.gatherL]; exact ih _
theorem ET.gatherL_take (cl : ByteArray → Nat → Bool) (l : List ET) (st : FS) (k : Nat) (h : k < l.length) : ET.gatherL cl (l.take (k + 1)) st = (l.getD k default).gather cl (ET.gatherL cl (l.take k) st) := by
  rw [take_next l default k h, ET.gatherL_append]; simp [ET.gatherL]
theorem ST.gatherL_take (cl : ByteArray → Nat → Bool) (l : List ST) (st : FS) (k : Nat) (h : k < l.length) : ST.gatherL cl (l.take (k + 1)) st = (l.getD k default).gather cl (ST.gatherL cl (l.take k) st) := by
  rw [take_next l default k h, ST.gatherL_append]; simp [ST.gatherL]
/-- No list is longer than so many. -/
def FS.le (st : FS) (k : Nat) : Prop := st.vars.length ≤ k ∧ st.arrays.length ≤ k ∧ st.made.length ≤ k
theorem addL_le (l : List ByteArray) (s : ByteArray) : (addL l s).length ≤ l.length + 1 := by
  unfold addL; split
  · omega
  · simp
theorem FS.le_mono {st : FS} {k k' : Nat} (h : st.le k) (hk : k ≤ k') : st.le k' := ⟨Nat.le_trans h.1 hk, Nat.le_trans h.2.1 hk, Nat.le_trans h.2.2 hk⟩
mutual
theorem ET.gather_le (cl : ByteArray → Nat → Bool) : ∀ (e : ET) (st : FS) (k : Nat) (d : Int), st.le k → (e.gather cl st).le (k + (e.nodes d).length)
  | .mk o n s l, st, k, d, h => by
    simp only [ET.gather, ET.nodes, List.length_cons]
    have h1 := addL_le st.vars s
    have h2 := addL_le st.arrays s
    obtain ⟨a, b, c⟩ := h
    refine FS.le_mono (ET.gatherL_le cl l _ (k + 1) (wrap64 (d + 1)) ?_) (by omega)
    split
    · exact ⟨by simp only; omega, by simp only; omega, by simp only; omega⟩
    · split
      · exact ⟨by simp only; omega, by simp only; omega, by simp only; omega⟩
      · split
        · exact ⟨by simp only; omega, by simp only; omega, by simp only; omega⟩
        · exact ⟨by omega, by omega, by omega⟩
theorem ET.gatherL_le (cl : ByteArray → Nat → Bool) : ∀ (l : List ET) (st : FS) (k : Nat) (d : Int), st.le k → (ET.gatherL cl l st).le (k + (ET.nodesL l d).length)
  | [], st, k, d, h => by simpa [ET.gatherL, ET.nodesL] using h
  | e :: r, st, k, d, h => by
    simp only [ET.gatherL, ET.nodesL, List.length_append]
    exact FS.le_mono (ET.gatherL_le cl r _ _ d (ET.gather_le cl e st k d h)) (by omega)
end
mutual
theorem ST.gather_le (cl : ByteArray → Nat → Bool) : ∀ (e : ST) (st : FS) (k : Nat) (d : Int), st.le k → (e.gather cl st).le (k + (e.nodes d).length)
  | .mk o n s l b e, st, k, d, h => by
    simp only [ST.gather, ST.nodes, List.length_cons, List.length_append]
    have h1 := addL_le st.vars s
    have h2 := addL_le st.arrays s
    have h3 := addL_le st.made s
    obtain ⟨a, b', c⟩ := h
    have h0 : (ST.own o s st).le (k + 1) := by
      unfold ST.own
      split
      · exact ⟨by simp only; omega, by simp only; omega, by simp only; omega⟩
      · split
        · exact ⟨by simp only; omega, by simp only; omega, by simp only; omega⟩
        · split
          · exact ⟨by simp only; omega, by simp only; omega, by simp only; omega⟩
          · exact ⟨by omega, by omega, by omega⟩
    exact FS.le_mono (ST.gatherL_le cl e _ _ (wrap64 (d + 1)) (ST.gatherL_le cl b _ _ (wrap64 (d + 1)) (ET.gatherL_le cl l _ _ (wrap64 (d + 1)) h0))) (by omega)
theorem ST.gatherL_le (cl : ByteArray → Nat → Bool) : ∀ (l : List ST) (st : FS) (k : Nat) (d : Int), st.le k → (ST.gatherL cl l st).le (k + (ST.nodesL l d).length)
  | [], st, k, d, h => by simpa [ST.gatherL, ST.nodesL] using h
  | e :: r, st, k, d, h => by
    simp only [ST.gatherL, ST.nodesL, List.length_append]
    exact FS.le_mono (ST.gatherL_le cl r _ _ d (ST.gather_le cl e st k d h)) (by omega)
end
/- All names are short. -/
mutual
def ET.shB : ET → Bool
  | .mk _ _ s l => decide (s.size ≤ 32) && ET.shL l
def ET.shL : List ET → Bool
  | [] => true
  | e :: r => ET.shB e && ET.shL r
end
mutual
def ST.shB : ST → Bool
  | .mk _ _ s l b e => decide (s.size ≤ 32) && (ET.shL l && (ST.shL b && ST.shL e))
def ST.shL : List ST → Bool
  | [] => true
  | e :: r => ST.shB e && ST.shL r
end
theorem ET.shL_iff (l : List ET) : ET.shL l = true ↔ ∀ i, i < l.length → (l.getD i default).shB = true := by
  induction l with
  | nil => simp [ET.shL]
  | cons e r ih =>
    simp only [ET.shL, Bool.and_eq_true, List.length_cons]
    rw [ih]
    constructor
    · rintro ⟨h1, h2⟩ i hi
      cases i with
      | zero => exact h1
      | succ i => exact h2 i (by omega)
    · intro h
      exact ⟨h 0 (by omega), fun i hi => h (i + 1) (by omega)⟩
theorem ST.shL_iff (l : List ST) : ST.shL l = true ↔ ∀ i, i < l.length → (l.getD i default).shB = true := by
  induction l with
  | nil => simp [ST.shL]
  | cons e r ih =>
    simp only [ST.shL, Bool.and_eq_true, List.length_cons]
    rw [ih]
    constructor
    · rintro ⟨h1, h2⟩ i hi
      cases i with
      | zero => exact h1
      | succ i => exact h2 i (by omega)
    · intro h
      exact ⟨h 0 (by omega), fun i hi => h (i + 1) (by omega)⟩
theorem ET.shB_parts (e : ET) : e.shB = (decide (e.name.size ≤ 32) && ET.shL e.parts) := by cases e; rfl
theorem ST.shB_parts (e : ST) : e.shB = (decide (e.name.size ≤ 32) && (ET.shL e.parts && (ST.shL e.body && ST.shL e.els))) := by cases e; rfl
theorem fits_short {nm : Bool} {least most parts : Int} {s : ByteArray} {n k : Int} (h : fitsB nm least most parts s n k = true) : s.size ≤ 32 := by
  unfold fitsB at h
  simp only [Bool.and_eq_true] at h
  have h4 := h.2.2.2
  cases nm with
  | true =>
    rw [if_pos rfl] at h4
    unfold nameB at h4
    simp only [Bool.and_eq_true, decide_eq_true_eq] at h4
    omega
  | false =>
    rw [if_neg (by decide)] at h4
    have : s.toList.length = s.size := by rw [ByteArray.toList_eq]; cases s; rfl
    rw [List.isEmpty_iff] at h4
    rw [h4] at this
    simp at this; omega
mutual
theorem ET.shB_of : ∀ (e : ET) (d : Int), (e.nodes d).all (·.1) = true → e.shB = true
  | .mk o n s l, d, h => by
    simp only [ET.nodes, List.all_cons, Bool.and_eq_true] at h
    simp only [ET.shB, Bool.and_eq_true]
    refine ⟨?_, ET.shL_of l _ h.2⟩
    have := h.1
    unfold exprB exprFits at this
    exact decide_eq_true (fits_short ((Bool.and_eq_true _ _).mp this).2)
theorem ET.shL_of : ∀ (l : List ET) (d : Int), (ET.nodesL l d).all (·.1) = true → ET.shL l = true
  | [], _, _ => rfl
  | e :: r, d, h => by
    simp only [ET.nodesL, List.all_append, Bool.and_eq_true] at h
    simp only [ET.shL, Bool.and_eq_true]
    exact ⟨ET.shB_of e d h.1, ET.shL_of r d h.2⟩
end
mutual
theorem ST.shB_of : ∀ (e : ST) (d : Int), (e.nodes d).all (·.1) = true → e.shB = true
  | .mk o n s l b e, d, h => by
    simp only [ST.nodes, List.all_cons, List.all_append, Bool.and_eq_true] at h
    simp only [ST.shB, Bool.and_eq_true]
    refine ⟨?_, ET.shL_of l _ h.2.1, ST.shL_of b _ h.2.2.1, ST.shL_of e _ h.2.2.2⟩
    have := h.1
    unfold stmtB stmtFits at this
    exact decide_eq_true (fits_short ((Bool.and_eq_true _ _).mp ((Bool.and_eq_true _ _).mp this).2).1)
theorem ST.shL_of : ∀ (l : List ST) (d : Int), (ST.nodesL l d).all (·.1) = true → ST.shL l = true
  | [], _, _ => rfl
  | e :: r, d, h => by
    simp only [ST.nodesL, List.all_append, Bool.and_eq_true] at h
    simp only [ST.shL, Bool.and_eq_true]
    exact ⟨ST.shB_of e d h.1, ST.shL_of r d h.2⟩
end
end Go.Proofs.YthjjcmmonjajhaaGreatDoor
namespace Go.Proofs.YthjjcmmonjajhaaGreatDoor
open Go.RowKit Go.Sort Go.Maps
set_option linter.unusedVariables false

def strangeB (st : FS) (s : ByteArray) : Bool := memB st.vars s || !memB st.made s
def FS.fits (st : FS) : Bool := !st.wrong && !(st.arrays.any (strangeB st))
theorem Nm.look {n0 : Nat} {W : World} {lv mv : Value} {l : List ByteArray} (h : Nm n0 W lv mv l) (s : ByteArray) (hs : s.size ≤ 32) : (∃ o, mv = .map o) ∧ (Instr.lookup 95 mv (.string s) false).run Tryz.prog W = .ok (.bool (memB l s)) W := by
  rcases h.map with ⟨rfl, rfl⟩ | ⟨mb, D, rfl, _, hown, hD⟩
  · exact ⟨⟨_, rfl⟩, look_nil_name W s hs⟩
  · exact ⟨⟨_, rfl⟩, look_name hown hD s hs⟩
theorem own_tsl {w : World} {base : Nat} {v : Value} {l : List ByteArray} (h : w.ownsRow base 9 1 v l.length (l.map Value.string)) : TSl w v l := by
  have h' := h
  obtain ⟨hl, ⟨rfl, h0⟩ | ⟨g, cap, cur, rfl, _, hg, hn, hm, hc, ht⟩⟩ := h
  · obtain rfl : l = [] := List.eq_nil_of_length_eq_zero (by omega)
    exact .mk none 0 0 0 [] (fun h => absurd h (by simp)) (Nat.le_refl _) (Nat.zero_le _) (fun i hi => absurd hi (by simp))
  · refine .mk _ g 0 cap l (fun _ => rfl) (by omega) hm (fun i hi => ?_)
    rw [Nat.zero_add, own_cell h' i (by omega)]
    simp [hi]

set_option maxHeartbeats 2000000 in
set_option maxRecDepth 1000000 in
theorem fits1_r (n0 xb fb : Nat) (cv : Value) (st : FS) (s : ByteArray) (hs : s.size ≤ 32) (W : World) (hx : W.cell? ⟨xb, 0, none⟩ = some (.pointer (some ⟨fb, 0, none⟩))) (hf : Fd n0 W fb cv st) (q : Bool) (hq : strangeB st s = q) :
    Calls Tryz.prog 55 #[.string s, .pointer (some ⟨xb, 0, none⟩)] W fun e w' => e = .returned (.bool q) ∧ w' = W := by
  obtain ⟨hg, l0, m0, l1, m1, l2, m2, hb, ⟨n1, n2, n3⟩, _⟩ := hf
  obtain ⟨⟨o0, rfl⟩, k0⟩ := n1.look s hs
  obtain ⟨⟨o2, rfl⟩, k2⟩ := n3.look s hs
  have c1 : W.cell? ⟨fb, 1, none⟩ = some (.map o0) := cell_of_heap hb 1
  have c5 : W.cell? ⟨fb, 5, none⟩ = some (.map o2) := cell_of_heap hb 5
  unfold strangeB at hq
  generalize memB st.vars s = b0 at k0 hq
  generalize memB st.made s = b2 at k2 hq
  clear hb n1 n2 n3 hg
  subst hq
  cases b0 <;> cases b2
  all_goals
    go_enter Tryz.func55, Tryz.ntmps55
    go_wp2
    go_ret
    exact ⟨rfl, rfl⟩

def fitsV (xb : Nat) : Value := .func (.func 55) #[] #[.pointer (some ⟨xb, 0, none⟩)]
set_option maxHeartbeats 2000000 in
set_option maxRecDepth 1000000 in
theorem fidx_r (n0 xb fb : Nat) (cv : Value) (st : FS) (W : World) (hx : W.cell? ⟨xb, 0, none⟩ = some (.pointer (some ⟨fb, 0, none⟩))) (hf : Fd n0 W fb cv st) (v : Value) (l : List ByteArray) (hl : ∀ s ∈ l, s.size ≤ 32) (q : Bool) (hq : l.any (strangeB st) = q) (h : TSl W v l) :
    Calls Tryz.prog 65 #[v, fitsV xb] W fun e w' => (∃ r : Int, e = .returned (.int .i64 r) ∧ decide (0 ≤ r) = q ∧ -1 ≤ r ∧ r ≤ 9223372036854775807) ∧ w' = W := by
  cases h with
  | mk a b off cap l ha hc hm hcell =>
    have HA := Lib.hid ha
    have HC := Lib.hid hcell
    have HQ := Lib.hid hq
    have HF := Lib.hid hf
    have HX := Lib.hid hx
    have HL : Hid (∀ i, i < l.length → (l.getD i ByteArray.empty).size ≤ 32) := fun i hi => hl _ (by rw [List.getD_eq_getElem?_getD, List.getElem?_eq_getElem hi]; exact List.getElem_mem _)
    have hm' : cap ≤ 9223372036854775807 := hm
    clear ha hcell hq hm hf hx hl
    unfold fitsV
    go_enter Tryz.func65, Tryz.ntmps65
    go_wp2
    go_loop [8] (fun i => ∃ k : Nat, i = .int .i64 k ∧ k ≤ l.length ∧ Hid ((l.take k).any (strangeB st) = false)) (fun i => l.length - (intOf i).toNat)
    case atStart => exact ⟨0, rfl, by omega, by show _ = _; simp⟩
    case round =>
      obtain ⟨k, rfl, hk, HK⟩ := hrel
      by_cases hlt : k < l.length
      · obtain rfl := HA.out (by omega)
        have e0 := HC.out k hlt
        have HT := Lib.hid (any_take l ByteArray.empty (strangeB st) k hlt)
        have HAT := Lib.hid (any_at l ByteArray.empty (strangeB st) k hlt)
        have HS := Lib.hid (HL.out k hlt)
        generalize l.getD k ByteArray.empty = x at e0 HT HAT HS
        obtain ⟨t, ht⟩ : ∃ t, strangeB st x = t := ⟨_, rfl⟩
        have HXX := Lib.hid ht
        clear ht
        cases t with
        | true =>
          go_wp2_with (go_at_call 55; refine (fits1_r n0 xb fb cv st x HS.out _ HX.out HF.out _ HXX.out).mono ?_; rintro e w' ⟨rfl, rfl⟩)
          go_ret
          exact ⟨⟨_, rfl, by rw [← HQ.out, HAT.out HXX.out]; exact decide_eq_true (by omega), by omega, by omega⟩, rfl⟩
        | false =>
          go_wp2_with (go_at_call 55; refine (fits1_r n0 xb fb cv st x HS.out _ HX.out HF.out _ HXX.out).mono ?_; rintro e w' ⟨rfl, rfl⟩)
          go_round
          case rel => exact ⟨k + 1, by go_num, by omega, by show _ = _; rw [HT.out, HK.out, HXX.out]; rfl⟩
          case measure => simp [intOf]; omega
      · obtain rfl : k = l.length := by omega
        go_wp2
        go_ret
        have := HK.out
        rw [List.take_length] at this
        exact ⟨⟨-1, rfl, by rw [← HQ.out, this]; rfl, by omega, by omega⟩, rfl⟩

set_option maxHeartbeats 1000000 in
set_option maxRecDepth 1000000 in
theorem fcont_r (n0 xb fb : Nat) (cv : Value) (st : FS) (W : World) (hx : W.cell? ⟨xb, 0, none⟩ = some (.pointer (some ⟨fb, 0, none⟩))) (hf : Fd n0 W fb cv st) (a : Option Addr) (n cap : Nat) (l : List ByteArray) (hl : ∀ s ∈ l, s.size ≤ 32) (q : Bool) (hq : l.any (strangeB st) = q) (h : TSl W (.slice a n cap) l) :
    Calls Tryz.prog 35 #[.slice a n cap, fitsV xb] W fun e w' => e = .returned (.bool q) ∧ w' = W := by
  have HH := Lib.hid h
  have HQ := Lib.hid hq
  have HF := Lib.hid hf
  have HX := Lib.hid hx
  have HL := Lib.hid hl
  clear h hq hf hx hl
  unfold fitsV
  cases q
  all_goals
    go_enter Tryz.func35, Tryz.ntmps35
    go_wp2_with (go_at_call 65; refine (fidx_r n0 xb fb cv st _ HX.out HF.out _ l HL.out _ HQ.out HH.out).mono ?_; rintro e w' ⟨⟨r, rfl, hr, hr0, hr1⟩, rfl⟩)
    go_ret
    exact ⟨rfl, rfl⟩

set_option maxHeartbeats 2000000 in
set_option maxRecDepth 1000000 in
/-- fits: no call was wrong; each array is made, and no variable. -/
theorem ffits_r (n0 fb : Nat) (cv : Value) (st : FS) (W : World) (hf : Fd n0 W fb cv st) (hl : ∀ s ∈ st.arrays, s.size ≤ 32) (q : Bool) (hq : st.fits = q) :
    Calls Tryz.prog 28 #[.pointer (some ⟨fb, 0, none⟩)] W fun e w' => e = .returned (.bool q) ∧ Below W.heap.size W w' := by
  have hbl : Below W.heap.size W (W.alloc (.cells #[.pointer (some ⟨fb, 0, none⟩)] 94)) := (Below.refl _ _).alloc (Nat.le_refl _) _
  have hf1 := hf.stay hbl
  have HF := Lib.hid hf1
  have HX : Hid ((W.alloc (.cells #[.pointer (some ⟨fb, 0, none⟩)] 94)).cell? ⟨W.heap.size, 0, none⟩ = some (.pointer (some ⟨fb, 0, none⟩))) := cell_of_heap (heap_alloc_new _ _) 0
  have HL := Lib.hid hl
  have HBL := Lib.hid hbl
  obtain ⟨hg, l0, m0, l1, m1, l2, m2, hb, ⟨n1, n2, n3⟩, _⟩ := hf1
  have HT := Lib.hid (own_tsl n2.row)
  obtain ⟨la, lc, rfl⟩ := own_shape n2.row
  have c2 : (W.alloc (.cells #[.pointer (some ⟨fb, 0, none⟩)] 94)).cell? ⟨fb, 2, none⟩ = some (.slice la st.arrays.length lc) := cell_of_heap hb 2
  have c6 : (W.alloc (.cells #[.pointer (some ⟨fb, 0, none⟩)] 94)).cell? ⟨fb, 6, none⟩ = some (.bool st.wrong) := cell_of_heap hb 6
  unfold FS.fits at hq
  obtain ⟨t, ht⟩ : ∃ t, st.arrays.any (strangeB st) = t := ⟨_, rfl⟩
  rw [ht] at hq
  have HQ := Lib.hid ht
  generalize st.wrong = b0 at hq c6
  have hcv : fitsV W.heap.size = .func (.func 55) #[] #[.pointer (some ⟨W.heap.size, 0, none⟩)] := rfl
  have HCV := Lib.hid hcv
  clear hb n1 n2 n3 hg hf hl hbl ht hcv
  subst hq
  cases b0 <;> cases t
  all_goals
    go_enter Tryz.func28, Tryz.ntmps28
    go_wp2_with (go_at_call 35; rw [← HCV.out]; refine (fcont_r n0 _ fb cv st _ HX.out HF.out la _ lc st.arrays HL.out _ HQ.out HT.out).mono ?_; rintro e w' ⟨rfl, rfl⟩)
    go_ret
    exact ⟨rfl, HBL.out⟩
end Go.Proofs.YthjjcmmonjajhaaGreatDoor
