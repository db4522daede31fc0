/- Names, each once: a list in memory and the map of those seen; add. -/
import Derived.Test.YthjjcmmonjajhaaDoorCompDefs
import Derived.Maps.OwnSet
import Derived.Maps.AppendAt
namespace Go.Proofs.YthjjcmmonjajhaaDoor
open Go.RowKit Go.Sort Go.Maps
set_option linter.unusedVariables false

def memB (l : List ByteArray) (s : ByteArray) : Bool := l.any fun x => s.toList == x.toList
def addL (l : List ByteArray) (s : ByteArray) : List ByteArray := if memB l s then l else l ++ [s]
def keyL (s : ByteArray) : Lit := .string s.data.toList
def litB (b : Bool) : DataW Unit := .lit (.bool b)
/-- A map says just which names are on a list. -/
def SetIs (D : DataW Unit) (l : List ByteArray) : Prop := IsMap D ∧ ∀ s : ByteArray, D.atKey (keyL s) (litB false) = litB (memB l s)
theorem setIs_empty : SetIs (.map []) [] := ⟨isMap_empty, fun s => rfl⟩
theorem SetIs.put {D : DataW Unit} {l : List ByteArray} (h : SetIs D l) (s : ByteArray) : SetIs (D.put (keyL s) (litB true)) (l ++ [s]) := by
  refine ⟨h.1.put _ _, fun t => ?_⟩
  have e : memB (l ++ [s]) t = (memB l t || (t.toList == s.toList)) := by unfold memB; rw [List.any_append]; simp
  rw [e]
  by_cases hts : t.toList = s.toList
  · have hk : keyL t = keyL s := by
      unfold keyL
      rw [ByteArray.toList_eq, ByteArray.toList_eq] at hts
      rw [hts]
    rw [hk, atKey_put_same h.1 (by simp [WideAt.IsKeyLit, keyL]) _ _, hts]
    simp
  · have hk : keyL t ≠ keyL s := by
      intro h'
      unfold keyL at h'
      injection h' with h'
      rw [ByteArray.toList_eq, ByteArray.toList_eq] at hts
      exact hts h'
    rw [atKey_put_other hk, h.2 t]
    have : (t.toList == s.toList) = false := by simpa using hts
    rw [this, Bool.or_false]
theorem lawStr : Keyed Tryd.prog 9 := string_keyed Tryd.underlying9
theorem zeroBool (w : World) : (zeroValue 4).run Tryd.prog w = .ok (.bool false) w := by kernel_rfl
theorem plainElem_bool_inv {H : Type} {P : Program} {e : TypeId} (he : P.underlying e = some .bool) {v : Value} {z : DataW H × List MemPlace} (h : plainElem P e v = some z) : ∃ b, v = .bool b ∧ z = (.lit (.bool b), []) := by
  unfold plainElem at h
  rw [he] at h
  cases v <;> simp at h
  exact ⟨_, rfl, h.symm⟩
/-- A name looked up in a map of names. -/
theorem look_name {w : World} {mb n : Nat} {D : DataW Unit} {l : List ByteArray} (h : w.ownsMap Tryd.prog 9 (plainElem Tryd.prog 4) mb n D) (hD : SetIs D l) (s : ByteArray) (hs : s.size ≤ 32) :
    (Instr.lookup 77 (.map (some mb)) (.string s) false).run Tryd.prog w = .ok (.bool (memB l s)) w := by
  obtain ⟨v, ps, hrun, hv⟩ := h.lookup (e := 4) lawStr Tryd.underlying77 (zeroBool w) (zd := litB false) (zp := []) (plainElem_bool Tryd.underlying4 false) (WideMaps.keyOf_string_mk Tryd.underlying9 (s := s) (by unfold maxLen; omega))
  obtain ⟨b, rfl, hb⟩ := plainElem_bool_inv Tryd.underlying4 hv
  have h1 : D.atKey (keyL s) (litB false) = .lit (.bool b) := congrArg Prod.fst hb
  rw [hD.2 s] at h1
  have h2 : b = memB l s := by
    unfold litB at h1
    exact (by simpa using h1 : memB l s = b).symm
  rw [hrun, h2]
theorem look_nil_name (w : World) (s : ByteArray) (hs : s.size ≤ 32) : (Instr.lookup 77 (.map none) (.string s) false).run Tryd.prog w = .ok (.bool false) w := by
  have := Maps.look_nil (P := Tryd.prog) (w := w) (t := 77) (e := 4) false lawStr Tryd.underlying77 (zeroBool w) (key := .string s) (WideMaps.keyOf_string_mk Tryd.underlying9 (s := s) (by unfold maxLen; omega))
  simpa using this

def mapBlk : Value → Option Nat
  | .map (some b) => some b
  | _ => none
/-- A list of names in memory, and the map of those seen. -/
structure Nm (n0 : Nat) (W : World) (lv mv : Value) (l : List ByteArray) : Prop where
  row : W.ownsRow n0 9 1 lv l.length (l.map Value.string)
  map : (mv = .map none ∧ l = []) ∨ ∃ mb D, mv = .map (some mb) ∧ n0 ≤ mb ∧ W.ownsMap Tryd.prog 9 (plainElem Tryd.prog 4) mb l.length D ∧ SetIs D l
theorem Nm.stay {n0 : Nat} {W W' : World} {lv mv : Value} {l : List ByteArray} (h : Nm n0 W lv mv l) (hs : W.heap.size ≤ W'.heap.size) (hk : ∀ k o, W.heap[k]? = some o → (some k = lv.ownBlock ∨ some k = mapBlk mv) → W'.heap[k]? = some o) : Nm n0 W' lv mv l := by
  obtain ⟨hr, hm⟩ := h
  constructor
  · obtain ⟨h1, h2 | ⟨g, cap, cur, rfl, a1, a2, a3⟩⟩ := hr
    · exact ⟨h1, .inl h2⟩
    · exact ⟨h1, .inr ⟨g, cap, cur, rfl, a1, hk _ _ a2 (.inl rfl), a3⟩⟩
  · rcases hm with h | ⟨mb, D, rfl, h1, ⟨es, clock, hb, rest⟩, h3⟩
    · exact .inl h
    · exact .inr ⟨mb, D, rfl, h1, ⟨es, clock, hk _ _ hb (.inr rfl), rest⟩, h3⟩
/-- What adding a name turns: the finder's box, the list's row, the map; new blocks. -/
structure AddK (n0 fb : Nat) (lv mv : Value) (W W' : World) : Prop where
  below : Below n0 W W'
  kept : ∀ k o, W.heap[k]? = some o → k ≠ fb → some k ≠ lv.ownBlock → some k ≠ mapBlk mv → W'.heap[k]? = some o
/-- What is there behind: the new list and map, and where they lie. -/
structure Added (n0 fb j : Nat) (cs : Array Value) (lv mv : Value) (l : List ByteArray) (W W' : World) : Prop where
  fr : AddK n0 fb lv mv W W'
  got : ∃ lv' mv' cs', W'.heap[fb]? = some (.cells cs' 81 (0, 0)) ∧ cs'.size = cs.size ∧ cs'[j]? = some lv' ∧ cs'[j + 1]? = some mv' ∧ (∀ i, i ≠ j → i ≠ j + 1 → cs'[i]? = cs[i]?) ∧ Nm n0 W' lv' mv' l ∧
    (lv'.ownBlock = lv.ownBlock ∨ ∃ k, lv'.ownBlock = some k ∧ W.heap.size ≤ k) ∧ (mapBlk mv' = mapBlk mv ∨ ∃ k, mapBlk mv' = some k ∧ W.heap.size ≤ k)
theorem infoStr : (Tryd.prog.info? 9).map (fun i => (i.zero, i.size, i.bytes)) = some (some (.string ⟨#[]⟩), 1, 16) := by kernel_rfl
theorem memB_nil (s : ByteArray) : memB [] s = false := rfl

set_option maxHeartbeats 4000000 in
set_option maxRecDepth 1000000 in
theorem add_has (n0 fb j : Nat) (cs : Array Value) (lv mv : Value) (l : List ByteArray) (s : ByteArray) (hs : s.size ≤ 32) (W : World) (hb : W.heap[fb]? = some (.cells cs 81 (0, 0))) (hj : cs[j]? = some lv) (hj1 : cs[j + 1]? = some mv) (hn : Nm n0 W lv mv l) (hm : memB l s = true) :
    Calls Tryd.prog 20 #[.pointer (some ⟨fb, j, none⟩), .string s] W fun e w' => e = .returned (.bool false) ∧ Added n0 fb j cs lv mv (addL l s) W w' := by
  have hn' := hn
  obtain ⟨hr, h | ⟨mb, D, rfl, hge, hown, hD⟩⟩ := hn
  · rw [h.2, memB_nil] at hm; cases hm
  have hk := look_name hown hD s hs
  rw [hm] at hk
  have c1 : W.cell? ⟨fb, j + 1, none⟩ = some (.map (some mb)) := (cell_of_heap hb (j + 1)).trans hj1
  have HR : Hid (Added n0 fb j cs lv (.map (some mb)) (addL l s) W W) := by
    refine ⟨⟨Below.refl _ _, fun k o h _ _ _ => h⟩, lv, .map (some mb), cs, hb, rfl, hj, hj1, fun _ _ _ => rfl, ?_, .inl rfl, .inl rfl⟩
    unfold addL; rw [if_pos hm]; exact hn'
  clear hn' hr hge hown hD hb hj hj1 hm
  go_enter Tryd.func20, Tryd.ntmps20
  go_wp2
  go_ret
  exact ⟨rfl, HR.out⟩
end Go.Proofs.YthjjcmmonjajhaaDoor
