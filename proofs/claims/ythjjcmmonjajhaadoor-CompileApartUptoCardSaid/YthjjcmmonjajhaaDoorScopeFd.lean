/- The finder in memory: three lists of names, apart; a name is added to one of them. -/
import Derived.Test.YthjjcmmonjajhaaDoorScopeAdd
namespace Go.Proofs.YthjjcmmonjajhaaDoor
open Go.RowKit Go.Sort Go.Maps
set_option linter.unusedVariables false

/-- What has been found of a function. -/
structure FS where
  vars : List ByteArray
  arrays : List ByteArray
  made : List ByteArray
  wrong : Bool
theorem Nm.row_at {n0 : Nat} {W : World} {lv mv : Value} {l : List ByteArray} (h : Nm n0 W lv mv l) {k : Nat} (hk : lv.ownBlock = some k) : ∃ cs fr, W.heap[k]? = some (.cells cs 9 fr) := by
  obtain ⟨⟨_, ⟨rfl, _⟩ | ⟨g, cap, cur, rfl, _, hg, _⟩⟩, _⟩ := h
  · simp [Value.ownBlock] at hk
  · simp only [Value.ownBlock, Option.some.injEq] at hk
    subst hk
    exact ⟨_, _, hg⟩
theorem Nm.map_at {n0 : Nat} {W : World} {lv mv : Value} {l : List ByteArray} (h : Nm n0 W lv mv l) {k : Nat} (hk : mapBlk mv = some k) : ∃ es c, W.heap[k]? = some (.map es c) := by
  obtain ⟨_, ⟨rfl, _⟩ | ⟨mb, D, rfl, _, ⟨es, clock, hb, _⟩, _⟩⟩ := h
  · simp [mapBlk] at hk
  · simp only [mapBlk, Option.some.injEq] at hk
    subst hk
    exact ⟨_, _, hb⟩
/-- Two lists of names lie apart. -/
def Apt (l m l' m' : Value) : Prop := (∀ k, l.ownBlock = some k → l'.ownBlock ≠ some k) ∧ ∀ k, mapBlk m = some k → mapBlk m' ≠ some k
theorem Apt.symm {l m l' m' : Value} (h : Apt l m l' m') : Apt l' m' l m := ⟨fun k h1 h2 => h.1 k h2 h1, fun k h1 h2 => h.2 k h2 h1⟩
theorem other_stays {n0 fb : Nat} {lv mv l1 m1 : Value} {x : List ByteArray} {W W' : World} {cs : Array Value} (hk : AddK n0 fb lv mv W W') (hn : Nm n0 W l1 m1 x) (ha : Apt lv mv l1 m1) (hl : ∀ k, lv.ownBlock = some k → ∃ cs fr, W.heap[k]? = some (.cells cs 9 fr)) (hm : ∀ k, mapBlk mv = some k → ∃ es c, W.heap[k]? = some (.map es c)) (hb : W.heap[fb]? = some (.cells cs 81 (0, 0))) : Nm n0 W' l1 m1 x := by
  refine hn.stay hk.below.size (fun k o ho h => ?_)
  rcases h with h | h
  · obtain ⟨cs1, fr1, h1⟩ := hn.row_at h.symm
    refine hk.kept k o ho ?_ ?_ ?_
    · rintro rfl
      rw [hb] at h1; injection h1 with h1; injection h1 with _ h2 _; exact absurd h2 (by decide)
    · intro e; exact ha.1 k e.symm h.symm
    · intro e
      obtain ⟨es, c, h2⟩ := hm k e.symm
      rw [h2] at h1; cases h1
  · obtain ⟨es, c, h1⟩ := hn.map_at h.symm
    refine hk.kept k o ho ?_ ?_ ?_
    · rintro rfl
      rw [hb] at h1; cases h1
    · intro e
      obtain ⟨cs1, fr1, h2⟩ := hl k e.symm
      rw [h2] at h1; cases h1
    · intro e; exact ha.2 k e.symm h.symm
theorem Apt.new {n0 : Nat} {lv mv l1 m1 lv' mv' : Value} {x : List ByteArray} {W : World} (hn : Nm n0 W l1 m1 x) (ha : Apt lv mv l1 m1) (h1 : lv'.ownBlock = lv.ownBlock ∨ ∃ k, lv'.ownBlock = some k ∧ W.heap.size ≤ k) (h2 : mapBlk mv' = mapBlk mv ∨ ∃ k, mapBlk mv' = some k ∧ W.heap.size ≤ k) : Apt lv' mv' l1 m1 := by
  constructor
  · intro k hk
    rcases h1 with h | ⟨k', h, hle⟩
    · exact ha.1 k (h ▸ hk)
    · intro e
      obtain ⟨cs, fr, hh⟩ := hn.row_at e
      have := lt_of_heap hh
      rw [h] at hk
      have := Option.some.inj hk
      omega
  · intro k hk
    rcases h2 with h | ⟨k', h, hle⟩
    · exact ha.2 k (h ▸ hk)
    · intro e
      obtain ⟨es, c, hh⟩ := hn.map_at e
      have := lt_of_heap hh
      rw [h] at hk
      have := Option.some.inj hk
      omega
/-- What the finder may turn: her own box, rows of names, maps; new blocks; nothing below a mark. -/
structure Fk (n0 fb : Nat) (W W' : World) : Prop where
  below : Below n0 W W'
  kept : ∀ k o, W.heap[k]? = some o → k ≠ fb → (∀ cs fr, o ≠ .cells cs 9 fr) → (∀ es c, o ≠ .map es c) → W'.heap[k]? = some o
theorem Fk.refl (n0 fb : Nat) (W : World) : Fk n0 fb W W := ⟨Below.refl _ _, fun _ _ h _ _ _ => h⟩
theorem Fk.trans {n0 fb : Nat} {a b c : World} (h : Fk n0 fb a b) (k : Fk n0 fb b c) : Fk n0 fb a c :=
  ⟨h.below.trans k.below, fun i o hi hne h1 h2 => k.kept i o (h.kept i o hi hne h1 h2) hne h1 h2⟩
theorem Fk.of_below {n0 fb : Nat} {a b : World} (hn : n0 ≤ a.heap.size) (h : Below a.heap.size a b) : Fk n0 fb a b :=
  ⟨h.mono hn, fun k o hk _ _ _ => (h.block k (lt_of_heap hk)).trans hk⟩
theorem Fk.size {n0 fb : Nat} {a b : World} (h : Fk n0 fb a b) : a.heap.size ≤ b.heap.size := h.below.size
/-- A new box is kept. -/
theorem Fk.box {n0 fb : Nat} {a b : World} {cs : Array Value} {t : TypeId} (h : Fk n0 fb (a.alloc (.cells cs t)) b) (hlt : fb < a.heap.size) (ht : t ≠ 9) : b.heap[a.heap.size]? = some (.cells cs t (0, 0)) :=
  h.kept _ _ (heap_alloc_new a _) (by omega) (fun cs' fr e => by injection e with _ h2 _; exact ht h2) (fun es c e => by cases e)
/-- The finder. -/
structure Fd (n0 : Nat) (W : World) (fb : Nat) (cv : Value) (st : FS) : Prop where
  ge : n0 ≤ fb
  box : ∃ l0 m0 l1 m1 l2 m2, W.heap[fb]? = some (.cells #[l0, m0, l1, m1, l2, m2, .bool st.wrong, cv] 81 (0, 0)) ∧ (Nm n0 W l0 m0 st.vars ∧ Nm n0 W l1 m1 st.arrays ∧ Nm n0 W l2 m2 st.made) ∧ Apt l0 m0 l1 m1 ∧ Apt l0 m0 l2 m2 ∧ Apt l1 m1 l2 m2
theorem Fd.lt {n0 : Nat} {W : World} {fb : Nat} {cv : Value} {st : FS} (h : Fd n0 W fb cv st) : fb < W.heap.size := by
  obtain ⟨_, _, _, _, _, _, _, hb, _⟩ := h; exact lt_of_heap hb
theorem Fd.stay {n0 : Nat} {W W' : World} {fb : Nat} {cv : Value} {st : FS} (h : Fd n0 W fb cv st) (hb : Below W.heap.size W W') : Fd n0 W' fb cv st := by
  obtain ⟨hg, l0, m0, l1, m1, l2, m2, hx, ⟨n1, n2, n3⟩, ha⟩ := h
  have hk : ∀ k o, W.heap[k]? = some o → W'.heap[k]? = some o := fun k o hk => (hb.block k (lt_of_heap hk)).trans hk
  exact ⟨hg, l0, m0, l1, m1, l2, m2, hk _ _ hx, ⟨n1.stay hb.size fun k o h _ => hk k o h, n2.stay hb.size fun k o h _ => hk k o h, n3.stay hb.size fun k o h _ => hk k o h⟩, ha⟩
theorem AddK.fk {n0 fb : Nat} {lv mv : Value} {W W' : World} (hk : AddK n0 fb lv mv W W') (hl : ∀ k, lv.ownBlock = some k → ∃ cs fr, W.heap[k]? = some (.cells cs 9 fr)) (hm : ∀ k, mapBlk mv = some k → ∃ es c, W.heap[k]? = some (.map es c)) : Fk n0 fb W W' := by
  refine ⟨hk.below, fun k o ho h1 h2 h3 => hk.kept k o ho h1 ?_ ?_⟩
  · intro e
    obtain ⟨cs, fr, h⟩ := hl k e.symm
    rw [ho] at h
    exact h2 cs fr (Option.some.inj h)
  · intro e
    obtain ⟨es, c, h⟩ := hm k e.symm
    rw [ho] at h
    exact h3 es c (Option.some.inj h)
theorem arr8 {cs : Array Value} {v0 v1 v2 v3 v4 v5 v6 v7 : Value} (hz : cs.size = 8) (h0 : cs[0]? = some v0) (h1 : cs[1]? = some v1) (h2 : cs[2]? = some v2) (h3 : cs[3]? = some v3) (h4 : cs[4]? = some v4) (h5 : cs[5]? = some v5) (h6 : cs[6]? = some v6) (h7 : cs[7]? = some v7) : cs = #[v0, v1, v2, v3, v4, v5, v6, v7] := by
  apply Array.ext_getElem?
  intro i
  rcases Nat.lt_or_ge i 8 with h | h
  · have : i = 0 ∨ i = 1 ∨ i = 2 ∨ i = 3 ∨ i = 4 ∨ i = 5 ∨ i = 6 ∨ i = 7 := by omega
    rcases this with rfl | rfl | rfl | rfl | rfl | rfl | rfl | rfl
    · exact h0
    · exact h1
    · exact h2
    · exact h3
    · exact h4
    · exact h5
    · exact h6
    · exact h7
  · rw [Array.getElem?_eq_none (by omega), Array.getElem?_eq_none (by simpa using h)]
theorem fadd0 (n0 fb : Nat) (cv : Value) (st : FS) (s : ByteArray) (hs : s.size ≤ 32) (W : World) (hf : Fd n0 W fb cv st) (h0 : n0 ≤ W.heap.size) (hl : st.vars.length ≤ 4194304) :
    Calls Tryd.prog 20 #[.pointer (some ⟨fb, 0, none⟩), .string s] W fun e w' => e = .returned (.bool (!memB st.vars s)) ∧ Fk n0 fb W w' ∧ Fd n0 w' fb cv { st with vars := addL st.vars s } := by
  obtain ⟨hg, l0, m0, l1, m1, l2, m2, hx, ⟨n1, n2, n3⟩, a1, a2, a3⟩ := hf
  refine (add_r n0 fb 0 _ l0 m0 st.vars s hs W hx rfl rfl n1 h0 hg hl).mono ?_
  rintro e w' ⟨rfl, hk, lv', mv', cs', hb, hz, hj, hj1, ho, hn, hl1, hm1⟩
  refine ⟨rfl, hk.fk (fun k h => n1.row_at h) (fun k h => n1.map_at h), hg, lv', mv', l1, m1, l2, m2, ?_, ⟨hn, other_stays hk n2 a1 (fun k h => n1.row_at h) (fun k h => n1.map_at h) hx, other_stays hk n3 a2 (fun k h => n1.row_at h) (fun k h => n1.map_at h) hx⟩, a1.new n2 hl1 hm1, a2.new n3 hl1 hm1, a3⟩
  have e := arr8 hz hj hj1 (ho 2 (by omega) (by omega)) (ho 3 (by omega) (by omega)) (ho 4 (by omega) (by omega)) (ho 5 (by omega) (by omega)) (ho 6 (by omega) (by omega)) (ho 7 (by omega) (by omega))
  subst e
  exact hb
theorem fadd1 (n0 fb : Nat) (cv : Value) (st : FS) (s : ByteArray) (hs : s.size ≤ 32) (W : World) (hf : Fd n0 W fb cv st) (h0 : n0 ≤ W.heap.size) (hl : st.arrays.length ≤ 4194304) :
    Calls Tryd.prog 20 #[.pointer (some ⟨fb, 2, none⟩), .string s] W fun e w' => e = .returned (.bool (!memB st.arrays s)) ∧ Fk n0 fb W w' ∧ Fd n0 w' fb cv { st with arrays := addL st.arrays s } := by
  obtain ⟨hg, l0, m0, l1, m1, l2, m2, hx, ⟨n1, n2, n3⟩, a1, a2, a3⟩ := hf
  refine (add_r n0 fb 2 _ l1 m1 st.arrays s hs W hx rfl rfl n2 h0 hg hl).mono ?_
  rintro e w' ⟨rfl, hk, lv', mv', cs', hb, hz, hj, hj1, ho, hn, hl1, hm1⟩
  refine ⟨rfl, hk.fk (fun k h => n2.row_at h) (fun k h => n2.map_at h), hg, l0, m0, lv', mv', l2, m2, ?_, ⟨other_stays hk n1 a1.symm (fun k h => n2.row_at h) (fun k h => n2.map_at h) hx, hn, other_stays hk n3 a3 (fun k h => n2.row_at h) (fun k h => n2.map_at h) hx⟩, (a1.symm.new n1 hl1 hm1).symm, a2, a3.new n3 hl1 hm1⟩
  have e := arr8 hz (ho 0 (by omega) (by omega)) (ho 1 (by omega) (by omega)) hj hj1 (ho 4 (by omega) (by omega)) (ho 5 (by omega) (by omega)) (ho 6 (by omega) (by omega)) (ho 7 (by omega) (by omega))
  subst e
  exact hb
theorem fadd2 (n0 fb : Nat) (cv : Value) (st : FS) (s : ByteArray) (hs : s.size ≤ 32) (W : World) (hf : Fd n0 W fb cv st) (h0 : n0 ≤ W.heap.size) (hl : st.made.length ≤ 4194304) :
    Calls Tryd.prog 20 #[.pointer (some ⟨fb, 4, none⟩), .string s] W fun e w' => e = .returned (.bool (!memB st.made s)) ∧ Fk n0 fb W w' ∧ Fd n0 w' fb cv { st with made := addL st.made s } := by
  obtain ⟨hg, l0, m0, l1, m1, l2, m2, hx, ⟨n1, n2, n3⟩, a1, a2, a3⟩ := hf
  refine (add_r n0 fb 4 _ l2 m2 st.made s hs W hx rfl rfl n3 h0 hg hl).mono ?_
  rintro e w' ⟨rfl, hk, lv', mv', cs', hb, hz, hj, hj1, ho, hn, hl1, hm1⟩
  refine ⟨rfl, hk.fk (fun k h => n3.row_at h) (fun k h => n3.map_at h), hg, l0, m0, l1, m1, lv', mv', ?_, ⟨other_stays hk n1 a2.symm (fun k h => n3.row_at h) (fun k h => n3.map_at h) hx, other_stays hk n2 a3.symm (fun k h => n3.row_at h) (fun k h => n3.map_at h) hx, hn⟩, a1, (a2.symm.new n1 hl1 hm1).symm, (a3.symm.new n2 hl1 hm1).symm⟩
  have e := arr8 hz (ho 0 (by omega) (by omega)) (ho 1 (by omega) (by omega)) (ho 2 (by omega) (by omega)) (ho 3 (by omega) (by omega)) hj hj1 (ho 6 (by omega) (by omega)) (ho 7 (by omega) (by omega))
  subst e
  exact hb
end Go.Proofs.YthjjcmmonjajhaaDoor
