/- The reference's scope: the names of a function. -/
import Derived.Test.YthjjcmmonjajhaaGreatDoorRefs
import Derived.Test.YthjjcmmonjajhaaGreatDoorRefUse
import Derived.Test.YthjjcmmonjajhaaGreatDoorCompRep
import Derived.Laws.CopyOwn
import Derived.Laws.Tables
namespace Go.Proofs.YthjjcmmonjajhaaGreatDoor
open Go.RowKit Go.Sort
set_option linter.unusedVariables false

/-- What a name as it stands adds to what has been found. -/
def FS.use (cl : ByteArray → Nat → Bool) (st : FS) (u : VU) : FS :=
  if u.kind = 1 then { st with vars := addL st.vars u.name } else if u.kind = 2 then { st with arrays := addL st.arrays u.name }
  else if u.kind = 3 then { st with made := addL st.made u.name, arrays := addL st.arrays u.name } else if u.kind = 4 then { st with wrong := st.wrong || !cl u.name u.parts.toNat } else st
mutual
theorem ET.gather_use (cl : ByteArray → Nat → Bool) : ∀ (e : ET) (st : FS), e.gather cl st = (ET.uses e).foldl (FS.use cl) st
  | .mk o n s l, st => by
    simp only [ET.gather, ET.uses, List.foldl_append]
    rw [ET.gather_useL cl l]
    congr 1
    unfold ownU
    by_cases h2 : o = 2
    · rw [if_pos h2, if_pos h2]; rfl
    · rw [if_neg h2, if_neg h2]
      by_cases h4 : o = 4
      · rw [if_pos h4, if_pos h4]; rfl
      · rw [if_neg h4, if_neg h4]
        by_cases h5 : o = 5
        · rw [if_pos h5, if_pos h5]; rfl
        · rw [if_neg h5, if_neg h5]; rfl
theorem ET.gather_useL (cl : ByteArray → Nat → Bool) : ∀ (l : List ET) (st : FS), ET.gatherL cl l st = (ET.usesL l).foldl (FS.use cl) st
  | [], st => rfl
  | e :: r, st => by
    simp only [ET.gatherL, ET.usesL, List.foldl_append]
    rw [← ET.gather_use cl e, ET.gather_useL cl r]
end
mutual
theorem ST.gather_use (cl : ByteArray → Nat → Bool) : ∀ (e : ST) (st : FS), e.gather cl st = (ST.uses e).foldl (FS.use cl) st
  | .mk o n s l b e, st => by
    simp only [ST.gather, ST.uses, List.foldl_append]
    rw [ST.gather_useL cl e, ST.gather_useL cl b, ET.gather_useL cl l]
    congr 3
    unfold ST.own ownV
    by_cases h3 : o = 3
    · rw [if_pos h3, if_neg (by omega), if_neg (by omega), if_pos h3]; rfl
    · rw [if_neg h3]
      by_cases h2 : o = 2
      · rw [if_pos h2, if_neg (by omega), if_pos h2]; rfl
      · rw [if_neg h2]
        by_cases h1 : o = 1 ∨ o = 4
        · rw [if_pos h1, if_pos h1]; rfl
        · rw [if_neg h1, if_neg h1, if_neg h2, if_neg h3]; rfl
theorem ST.gather_useL (cl : ByteArray → Nat → Bool) : ∀ (l : List ST) (st : FS), ST.gatherL cl l st = (ST.usesL l).foldl (FS.use cl) st
  | [], st => rfl
  | e :: r, st => by
    simp only [ST.gatherL, ST.usesL, List.foldl_append]
    rw [← ST.gather_use cl e, ST.gather_useL cl r]
end
def VU.ok (u : VU) : Prop := (u.kind = 1 ∨ u.kind = 2 ∨ u.kind = 3 ∨ u.kind = 4) ∧ ∃ m : Nat, u.parts = m
mutual
theorem ET.uses_ok : ∀ (e : ET), ∀ u ∈ ET.uses e, u.ok
  | .mk o n s l, u, h => by
    simp only [ET.uses] at h
    rcases List.mem_append.1 h with h | h
    · unfold ownU at h
      by_cases h2 : o = 2
      · rw [if_pos h2] at h; rw [List.mem_singleton.1 h]; exact ⟨.inl rfl, 0, rfl⟩
      · rw [if_neg h2] at h
        by_cases h4 : o = 4
        · rw [if_pos h4] at h; rw [List.mem_singleton.1 h]; exact ⟨.inr (.inl rfl), 0, rfl⟩
        · rw [if_neg h4] at h
          by_cases h5 : o = 5
          · rw [if_pos h5] at h; rw [List.mem_singleton.1 h]; exact ⟨.inr (.inr (.inr rfl)), _, rfl⟩
          · rw [if_neg h5] at h; cases h
    · exact ET.usesL_ok l u h
theorem ET.usesL_ok : ∀ (l : List ET), ∀ u ∈ ET.usesL l, u.ok
  | [], u, h => by simp [ET.usesL] at h
  | e :: r, u, h => by
    simp only [ET.usesL] at h
    rcases List.mem_append.1 h with h | h
    · exact ET.uses_ok e u h
    · exact ET.usesL_ok r u h
end
mutual
theorem ST.uses_ok : ∀ (e : ST), ∀ u ∈ ST.uses e, u.ok
  | .mk o n s l b e, u, h => by
    simp only [ST.uses] at h
    rcases List.mem_append.1 h with h | h
    · rcases List.mem_append.1 h with h | h
      · rcases List.mem_append.1 h with h | h
        · unfold ownV at h
          by_cases h1 : o = 1 ∨ o = 4
          · rw [if_pos h1] at h; rw [List.mem_singleton.1 h]; exact ⟨.inl rfl, 0, rfl⟩
          · rw [if_neg h1] at h
            by_cases h2 : o = 2
            · rw [if_pos h2] at h; rw [List.mem_singleton.1 h]; exact ⟨.inr (.inl rfl), 0, rfl⟩
            · rw [if_neg h2] at h
              by_cases h3 : o = 3
              · rw [if_pos h3] at h; rw [List.mem_singleton.1 h]; exact ⟨.inr (.inr (.inl rfl)), 0, rfl⟩
              · rw [if_neg h3] at h; cases h
        · exact ET.usesL_ok l u h
      · exact ST.usesL_ok b u h
    · exact ST.usesL_ok e u h
theorem ST.usesL_ok : ∀ (l : List ST), ∀ u ∈ ST.usesL l, u.ok
  | [], u, h => by simp [ST.usesL] at h
  | e :: r, u, h => by
    simp only [ST.usesL] at h
    rcases List.mem_append.1 h with h | h
    · exact ST.uses_ok e u h
    · exact ST.usesL_ok r u h
end
theorem use_wrong (cl : ByteArray → Nat → Bool) : ∀ (l : List VU) (st : FS), (l.foldl (FS.use cl) st).wrong = false → st.wrong = false
  | [], _, h => h
  | u :: r, st, h => by
    have h1 := use_wrong cl r _ h
    unfold FS.use at h1
    split at h1
    · exact h1
    · split at h1
      · exact h1
      · split at h1
        · exact h1
        · split at h1
          · exact (Bool.or_eq_false_iff.1 h1).1
          · exact h1
theorem param_wrong : ∀ (l : List ByteArray) (st : FS), (l.foldl FS.param st).wrong = false → st.wrong = false
  | [], _, h => h
  | s :: r, st, h => by
    have h1 := param_wrong r _ h
    exact (Bool.or_eq_false_iff.1 (show (memB st.vars s || st.wrong) = false from h1)).2
/-- No list is longer than what has been added. -/
theorem use_len (cl : ByteArray → Nat → Bool) (u : VU) (st : FS) (k : Nat) (h : st.le k) : (FS.use cl st u).le (k + 1) := by
  have h1 := addL_le st.vars u.name
  have h2 := addL_le st.arrays u.name
  have h3 := addL_le st.made u.name
  obtain ⟨g1, g2, g3⟩ := h
  unfold FS.use
  split
  · exact ⟨by dsimp only; omega, by dsimp only; omega, by dsimp only; omega⟩
  · split
    · exact ⟨by dsimp only; omega, by dsimp only; omega, by dsimp only; omega⟩
    · split
      · exact ⟨by dsimp only; omega, by dsimp only; omega, by dsimp only; omega⟩
      · split
        · exact ⟨by dsimp only; omega, by dsimp only; omega, by dsimp only; omega⟩
        · exact ⟨by omega, by omega, by omega⟩
theorem uses_len (cl : ByteArray → Nat → Bool) : ∀ (l : List VU) (st : FS) (k : Nat), st.le k → (l.foldl (FS.use cl) st).le (k + l.length)
  | [], st, k, h => h
  | u :: r, st, k, h => by
    have := uses_len cl r _ (k + 1) (use_len cl u st k h)
    rw [List.length_cons, show k + (r.length + 1) = k + 1 + r.length by omega]; exact this
theorem size_set9 (w : World) (a : Addr) (v : Value) : (w.setCell a v).heap.size = w.heap.size := by simp [World.setCell]
/-- The scope that is being made: its box, the row of what is made. -/
structure SI (W0 : World) (ob : Nat) (nm : ByteArray) (pl : Int) (st : FS) (mv : Value) (wr : World) : Prop where
  below : Below ob W0 wr
  lt : ob < W0.heap.size
  size : W0.heap.size ≤ wr.heap.size
  box : ∃ vv av, wr.heap[ob]? = some (.cells #[.string nm, .int .i64 pl, vv, av] 77 (0, 0)) ∧ OwnS W0.heap.size wr vv st.vars ∧ OwnS W0.heap.size wr av st.arrays
  made : OwnS W0.heap.size wr mv st.made
theorem SI.stay {W0 wr w' : World} {ob : Nat} {nm : ByteArray} {pl : Int} {st : FS} {mv : Value} (h : SI W0 ob nm pl st mv wr) (hb : Below wr.heap.size wr w') : SI W0 ob nm pl st mv w' := by
  obtain ⟨h1, hl, h2, ⟨vv, av, h3, h4, h5⟩, h6⟩ := h
  exact ⟨h1.trans (hb.mono (by omega)), hl, Nat.le_trans h2 hb.size, ⟨vv, av, (hb.block _ (lt_of_heap h3)).trans h3, h4.stay hb, h5.stay hb⟩, h6.stay hb⟩
theorem own_set9 {W0 w : World} {v : Value} {l : List ByteArray} {ob j : Nat} {cs : Array Value} {x : Value} (h : OwnS W0.heap.size w v l) (hb : w.heap[ob]? = some (.cells cs 77 (0, 0))) : OwnS W0.heap.size (w.setCell ⟨ob, j, none⟩ x) v l :=
  World.ownsRow.kept h (grown_set w ob j x) (.inr (fun e => own_ne_box h hb (by decide) e.symm))
theorem SI.setV {W0 wr w' : World} {ob : Nat} {nm : ByteArray} {pl : Int} {st : FS} {mv v' : Value} {l : List ByteArray} (h : SI W0 ob nm pl st mv wr) (hb : Below wr.heap.size wr w') (hv : OwnS W0.heap.size w' v' l) : SI W0 ob nm pl { st with vars := l } mv (w'.setCell ⟨ob, 2, none⟩ v') := by
  obtain ⟨h1, hl, h2, ⟨vv, av, h3, h4, h5⟩, h6⟩ := h.stay hb
  refine ⟨h1.setCell (p := ⟨ob, 2, none⟩) (Nat.le_refl _) _, hl, by rw [size_set9]; exact h2, ⟨v', av, ?_, own_set9 hv h3, own_set9 h5 h3⟩, own_set9 h6 h3⟩
  have := heap_set h3 2 v'
  simpa using this
theorem SI.setA {W0 wr w' : World} {ob : Nat} {nm : ByteArray} {pl : Int} {st : FS} {mv v' : Value} {l : List ByteArray} (h : SI W0 ob nm pl st mv wr) (hb : Below wr.heap.size wr w') (hv : OwnS W0.heap.size w' v' l) : SI W0 ob nm pl { st with arrays := l } mv (w'.setCell ⟨ob, 3, none⟩ v') := by
  obtain ⟨h1, hl, h2, ⟨vv, av, h3, h4, h5⟩, h6⟩ := h.stay hb
  refine ⟨h1.setCell (p := ⟨ob, 3, none⟩) (Nat.le_refl _) _, hl, by rw [size_set9]; exact h2, ⟨vv, v', ?_, own_set9 h4 h3, own_set9 hv h3⟩, own_set9 h6 h3⟩
  have := heap_set h3 3 v'
  simpa using this
theorem SI.of_eq {W0 wr : World} {ob : Nat} {nm : ByteArray} {pl : Int} {st st' : FS} {mv : Value} (h : SI W0 ob nm pl st mv wr) (h1 : st'.vars = st.vars) (h2 : st'.arrays = st.arrays) (h3 : st'.made = st.made) : SI W0 ob nm pl st' mv wr := by
  obtain ⟨g1, g2, g3, g4, g5⟩ := h
  exact ⟨g1, g2, g3, by rw [h1, h2]; exact g4, by rw [h3]; exact g5⟩
theorem SI.setM {W0 wr w' : World} {ob : Nat} {nm : ByteArray} {pl : Int} {st : FS} {mv v' : Value} {l : List ByteArray} (h : SI W0 ob nm pl st mv wr) (hb : Below wr.heap.size wr w') (hv : OwnS W0.heap.size w' v' l) : SI W0 ob nm pl { st with made := l } v' w' :=
  ⟨(h.stay hb).below, h.lt, (h.stay hb).size, (h.stay hb).box, hv⟩
theorem OwnU.shape {base : Nat} {w : World} {v : Value} {l : List VU} (h : OwnU base w v l) : ∃ a c, v = .slice a l.length c := own_shape h
theorem OwnU.set9 {base : Nat} {w : World} {v : Value} {l : List VU} {ob j : Nat} {cs : Array Value} {x : Value} (h : OwnU base w v l) (hb : w.heap[ob]? = some (.cells cs 77 (0, 0))) : OwnU base (w.setCell ⟨ob, j, none⟩ x) v l :=
  World.ownsRow.kept h (grown_set w ob j x) (.inr (fun e => own_ne_box h hb (by decide) e.symm))
theorem OwnU.at9 {base : Nat} {w : World} {a : Option Addr} {c : Nat} {l : List VU} (h : OwnU base w (.slice a l.length c) l) (j : Nat) (hj : j < l.length) :
    ∃ b off, a = some ⟨b, off, none⟩ ∧ w.cell? ⟨b, off + j * 3, none⟩ = some (.int .i64 (l.getD j default).kind) ∧ w.cell? ⟨b, off + j * 3 + 1, none⟩ = some (.int .i64 (l.getD j default).parts) ∧ w.cell? ⟨b, off + j * 3 + 2, none⟩ = some (.string (l.getD j default).name) := by
  obtain ⟨b, off, ha, hc⟩ := OwnU.src h
  refine ⟨b, off, ha (by omega), ?_, ?_, ?_⟩
  · have := useR_at l j 0 hj (by decide); exact hc (j * 3 + 0) _ (by rw [this]; rfl)
  · have := useR_at l j 1 hj (by decide); rw [Nat.add_assoc]; exact hc (j * 3 + 1) _ (by rw [this]; rfl)
  · have := useR_at l j 2 hj (by decide); rw [Nat.add_assoc]; exact hc (j * 3 + 2) _ (by rw [this]; rfl)
theorem use_take (cl : ByteArray → Nat → Bool) (l : List VU) (st : FS) (k : Nat) (h : k < l.length) : (l.take (k + 1)).foldl (FS.use cl) st = FS.use cl ((l.take k).foldl (FS.use cl) st) (l.getD k default) := by
  rw [List.take_add_one, List.foldl_append, List.getD_eq_getElem?_getD, List.getElem?_eq_getElem h]; rfl
/-- A row of one's own, with its header in sight. -/
def PHo (base : Nat) (L : List ByteArray) (v : Value) (w : World) : Prop := ∃ a c, v = .slice a L.length c ∧ OwnS base w v L
theorem PHo.of {base : Nat} {L : List ByteArray} {v : Value} {w : World} (h : OwnS base w v L) : PHo base L v w := by
  obtain ⟨a, c, rfl⟩ := h.shape
  exact ⟨a, c, rfl, h⟩
theorem PHo.stay {base : Nat} {L : List ByteArray} {v : Value} {w w' : World} (h : PHo base L v w) (hb : Below w.heap.size w w') : PHo base L v w' := by
  obtain ⟨a, c, e, h⟩ := h
  exact ⟨a, c, e, h.stay hb⟩
theorem TSl.take9 {w : World} {a : Option Addr} {n cap : Nat} {l : List ByteArray} (h : TSl w (.slice a n cap) l) (k : Nat) (hk : k ≤ n) : TSl w (.slice a k cap) (l.take k) := by
  generalize hv : Value.slice a n cap = v at h
  cases h with
  | mk a' b off cap' l' ha hc hm hcell =>
    cases hv
    have hl : (l.take k).length = k := by rw [List.length_take]; omega
    have key := TSl.mk (w := w) a b off cap (l.take k) (by rw [hl]; exact fun h => ha (by omega)) (by rw [hl]; omega) hm (fun i hi => by
      rw [hl] at hi
      have e : (l.take k).getD i ByteArray.empty = l.getD i ByteArray.empty := by
        rw [List.getD_eq_getElem?_getD, List.getD_eq_getElem?_getD, List.getElem?_take, if_pos hi]
      rw [e]
      exact hcell i (by omega))
    rwa [hl] at key
/-- The parameters so far, none twice, are the variables. -/
theorem params_vars : ∀ (l : List ByteArray) (st : FS), (l.foldl FS.param st).wrong = false → (l.foldl FS.param st).vars = st.vars ++ l
  | [], st, _ => by simp
  | s :: r, st, h => by
    have h0 := param_wrong r _ h
    have h1 : memB st.vars s = false := (Bool.or_eq_false_iff.1 (show (memB st.vars s || st.wrong) = false from h0)).1
    have h2 := params_vars r _ h
    rw [List.foldl_cons, h2]
    show addL st.vars s ++ r = _
    unfold addL
    rw [h1]; simp

theorem own_setRow9 {W0 w : World} {v : Value} {l : List ByteArray} {g : Nat} {cs old : Array Value} (h : OwnS W0.heap.size w v l) (hb : w.heap[g]? = some (.cells old 77 (0, 0))) : OwnS W0.heap.size (w.setRow g cs) v l := by
  refine World.ownsRow.kept h (row := some g) ⟨rfl, rfl, rfl, by simp, fun k _ hk => setRow_other w g k _ (fun e => hk (by rw [e]))⟩ (.inr (fun e => own_ne_box h hb (by decide) e.symm))
/-- What scope comes to. -/
def ScRes (p : PT) (nm : ByteArray) (ps : List ByteArray) (body : List ST) (w : World) (e : Ending) (w' : World) : Prop :=
  ∃ (vv av : Value) (ok : Bool) (vl al : List ByteArray), e = .returned (.tuple #[.agg #[.string nm, .int .i64 ps.length, vv, av], .bool ok]) ∧ Below w.heap.size w w' ∧ OwnS w.heap.size w' vv vl ∧ OwnS w.heap.size w' av al ∧ ok = (FT.found p.funcs ⟨nm, ps, body⟩).fits ∧ (ok = true → vl = (FT.found p.funcs ⟨nm, ps, body⟩).vars ∧ al = (FT.found p.funcs ⟨nm, ps, body⟩).arrays)
set_option maxHeartbeats 16000000 in
set_option maxRecDepth 1000000 in
theorem uscope_r (a1 a2 : Option Addr) (n1 n2 k1 k2 : Nat) (p : PT) (nm : ByteArray) (ps : List ByteArray) (body : List ST) (psv bv : Value) (hn32 : n1 ≤ 32) (hpl : ps.length ≤ 8) (hul : (ST.usesL body).length ≤ 10000000) (w : World) (hp : PR w (.slice a1 n1 k1) (.slice a2 n2 k2) p) (hps : TSl w psv ps) (hbv : SSl w bv body) :
    Calls Tryz.prog 20 #[.agg #[.slice a1 n1 k1, .slice a2 n2 k2], .agg #[.string nm, psv, bv]] w (ScRes p nm ps body w) := by
  obtain ⟨pa, pc, hpv, hpc1, hpc2⟩ := hps.shape9
  subst hpv
  obtain ⟨ba, bc, hbvs⟩ := hbv.shape0
  subst hbvs
  obtain ⟨iT, hi, hz0, hz1, hz2⟩ := info_parts infoU
  have HP := Lib.hid hp
  have HPS := Lib.hid hps
  have HBV := Lib.hid hbv
  have HUL := Lib.hid hul
  clear hp hps hbv hul
  have HBA : Hid (Below w.heap.size w ((((w.alloc (.cells #[.slice a1 n1 k1, .slice a2 n2 k2] 25)).alloc (.cells #[.string nm, .slice pa ps.length pc, .slice ba body.length bc] 67)).alloc (.cells #[.string ⟨#[]⟩, .int .i64 0, .slice none 0 0, .slice none 0 0] 77)).alloc (.cells #[.string nm, .int .i64 ps.length, .slice none 0 0, .slice none 0 0] 77))) := hb_alloc (hb_alloc (hb_alloc (hb_alloc (hb_start w) _) _) _) _
  have HPB : Hid (((((w.alloc (.cells #[.slice a1 n1 k1, .slice a2 n2 k2] 25)).alloc (.cells #[.string nm, .slice pa ps.length pc, .slice ba body.length bc] 67)).alloc (.cells #[.string ⟨#[]⟩, .int .i64 0, .slice none 0 0, .slice none 0 0] 77)).alloc (.cells #[.string nm, .int .i64 ps.length, .slice none 0 0, .slice none 0 0] 77)).heap[w.heap.size]? = some (.cells #[.slice a1 n1 k1, .slice a2 n2 k2] 25 (0, 0))) := (Below.heap_alloc _ _ _ (by rw [World.size_alloc, World.size_alloc, World.size_alloc]; omega)).trans ((Below.heap_alloc _ _ _ (by rw [World.size_alloc, World.size_alloc]; omega)).trans ((Below.heap_alloc _ _ _ (by rw [World.size_alloc]; omega)).trans (heap_alloc_new _ _)))
  have HFB : Hid (((((w.alloc (.cells #[.slice a1 n1 k1, .slice a2 n2 k2] 25)).alloc (.cells #[.string nm, .slice pa ps.length pc, .slice ba body.length bc] 67)).alloc (.cells #[.string ⟨#[]⟩, .int .i64 0, .slice none 0 0, .slice none 0 0] 77)).alloc (.cells #[.string nm, .int .i64 ps.length, .slice none 0 0, .slice none 0 0] 77)).heap[w.heap.size + 1]? = some (.cells #[.string nm, .slice pa ps.length pc, .slice ba body.length bc] 67 (0, 0))) := by
    refine (Below.heap_alloc _ _ _ (by rw [World.size_alloc, World.size_alloc, World.size_alloc]; omega)).trans ((Below.heap_alloc _ _ _ (by rw [World.size_alloc, World.size_alloc]; omega)).trans ?_)
    have := heap_alloc_new (w.alloc (.cells #[.slice a1 n1 k1, .slice a2 n2 k2] 25)) (.cells #[.string nm, .slice pa ps.length pc, .slice ba body.length bc] 67)
    rwa [World.size_alloc] at this
  have HRB : Hid (((((w.alloc (.cells #[.slice a1 n1 k1, .slice a2 n2 k2] 25)).alloc (.cells #[.string nm, .slice pa ps.length pc, .slice ba body.length bc] 67)).alloc (.cells #[.string ⟨#[]⟩, .int .i64 0, .slice none 0 0, .slice none 0 0] 77)).alloc (.cells #[.string nm, .int .i64 ps.length, .slice none 0 0, .slice none 0 0] 77)).heap[w.heap.size + 1 + 1]? = some (.cells #[.string ⟨#[]⟩, .int .i64 0, .slice none 0 0, .slice none 0 0] 77 (0, 0))) := by
    refine (Below.heap_alloc _ _ _ (by rw [World.size_alloc, World.size_alloc, World.size_alloc]; omega)).trans ?_
    have := heap_alloc_new ((w.alloc (.cells #[.slice a1 n1 k1, .slice a2 n2 k2] 25)).alloc (.cells #[.string nm, .slice pa ps.length pc, .slice ba body.length bc] 67)) (.cells #[.string ⟨#[]⟩, .int .i64 0, .slice none 0 0, .slice none 0 0] 77)
    rwa [World.size_alloc, World.size_alloc] at this
  have HOB : Hid (((((w.alloc (.cells #[.slice a1 n1 k1, .slice a2 n2 k2] 25)).alloc (.cells #[.string nm, .slice pa ps.length pc, .slice ba body.length bc] 67)).alloc (.cells #[.string ⟨#[]⟩, .int .i64 0, .slice none 0 0, .slice none 0 0] 77)).alloc (.cells #[.string nm, .int .i64 ps.length, .slice none 0 0, .slice none 0 0] 77)).heap[(w.heap.size + 1 + 1 + 1)]? = some (.cells #[.string nm, .int .i64 ps.length, .slice none 0 0, .slice none 0 0] 77 (0, 0))) := by
    have := heap_alloc_new (((w.alloc (.cells #[.slice a1 n1 k1, .slice a2 n2 k2] 25)).alloc (.cells #[.string nm, .slice pa ps.length pc, .slice ba body.length bc] 67)).alloc (.cells #[.string ⟨#[]⟩, .int .i64 0, .slice none 0 0, .slice none 0 0] 77)) (.cells #[.string nm, .int .i64 ps.length, .slice none 0 0, .slice none 0 0] 77)
    rwa [World.size_alloc, World.size_alloc, World.size_alloc] at this
  have HSZ : Hid (((((w.alloc (.cells #[.slice a1 n1 k1, .slice a2 n2 k2] 25)).alloc (.cells #[.string nm, .slice pa ps.length pc, .slice ba body.length bc] 67)).alloc (.cells #[.string ⟨#[]⟩, .int .i64 0, .slice none 0 0, .slice none 0 0] 77)).alloc (.cells #[.string nm, .int .i64 ps.length, .slice none 0 0, .slice none 0 0] 77)).heap.size = (w.heap.size + 1 + 1 + 1) + 1) := by show _ = _; rw [World.size_alloc, World.size_alloc, World.size_alloc, World.size_alloc]
  go_enter Tryz.func20, Tryz.ntmps20
  go_wp2
  generalize hW0 : ((((w.alloc (.cells #[.slice a1 n1 k1, .slice a2 n2 k2] 25)).alloc (.cells #[.string nm, .slice pa ps.length pc, .slice ba body.length bc] 67)).alloc (.cells #[.string ⟨#[]⟩, .int .i64 0, .slice none 0 0, .slice none 0 0] 77)).alloc (.cells #[.string nm, .int .i64 ps.length, .slice none 0 0, .slice none 0 0] 77)) = W0 at HBA HPB HFB HRB HOB HSZ ⊢
  clear hW0
  go_loopw [7] (fun i wr => ∃ j : Nat, i = .int .i64 j ∧ j ≤ ps.length ∧ Hid (SI W0 (w.heap.size + 1 + 1 + 1) nm ps.length ((ps.take j).foldl FS.param FS.init) (.slice none 0 0) wr) ∧ Hid (((ps.take j).foldl FS.param FS.init).wrong = false)) (fun i _ => ps.length - (intOf i).toNat)
  case atStart => exact ⟨0, rfl, Nat.zero_le _, ⟨Below.refl _ _, by have := HSZ.out; omega, Nat.le_refl _, ⟨_, _, HOB.out, World.ownsRow_nil _ _ _ _, World.ownsRow_nil _ _ _ _⟩, World.ownsRow_nil _ _ _ _⟩, rfl⟩
  case round =>
    obtain ⟨j, rfl, hj, HSI, HWR⟩ := hrel
    have HWr : Hid (Below w.heap.size w wr) := HBA.out.trans (HSI.out.below.mono (by omega))
    have HFr := Lib.hid ((HSI.out.below.block (w.heap.size + 1) (by omega)).trans HFB.out)
    have f1 : wr.cell? ⟨w.heap.size + 1, 1, none⟩ = some (.slice pa ps.length pc) := cell_of_heap HFr.out 1
    by_cases hlt : j < ps.length
    · obtain ⟨tb, tof, rfl, ec⟩ := HPS.out.at9 j hlt
      have hT := foldl_take ps FS.init j hlt
      have hv := params_vars (ps.take j) FS.init HWR.out
      have HTK := Lib.hid ((HPS.out.take9 j hj).stay HWr.out)
      obtain ⟨sx, hsx⟩ : ∃ x, ps.getD j ByteArray.empty = x := ⟨_, rfl⟩
      rw [hsx] at ec hT
      have HEC := Lib.hid ((HWr.out.cell (p := ⟨tb, tof + j, none⟩) (lt_of_cell ec)).trans ec)
      have e0 := HEC.out
      obtain ⟨q, hq⟩ : ∃ q, slotI (ps.take j) sx = q := ⟨_, rfl⟩
      have HQ := Lib.hid hq
      have hjI : (j : Int) < ps.length := by omega
      have hjc : j ≤ pc := by omega
      rcases slot_mem (ps.take j) sx with ⟨hm1, hm2⟩ | ⟨hm1, hm2⟩
      · have hd : decide ((0 : Int) ≤ q) = true := decide_eq_true (by rw [← hq]; exact hm2)
        have hwr : (ps.foldl FS.param FS.init).wrong = true := by
          cases hw : (ps.foldl FS.param FS.init).wrong with
          | true => rfl
          | false =>
            exfalso
            have h1 : ps.foldl FS.param FS.init = (ps.drop (j + 1)).foldl FS.param ((ps.take (j + 1)).foldl FS.param FS.init) := by rw [← List.foldl_append, List.take_append_drop]
            rw [h1] at hw
            have h2 := param_wrong _ _ hw
            rw [hT] at h2
            have h3 : (memB ((ps.take j).foldl FS.param FS.init).vars sx || ((ps.take j).foldl FS.param FS.init).wrong) = false := h2
            rw [hv] at h3
            have h4 : memB (FS.init.vars ++ ps.take j) sx = memB (ps.take j) sx := rfl
            rw [h4, hm1] at h3
            cases h3
        have hfit : (FT.found p.funcs ⟨nm, ps, body⟩).fits = false := by
          unfold FS.fits
          have : (FT.found p.funcs ⟨nm, ps, body⟩).wrong = true := by
            cases hw : (FT.found p.funcs ⟨nm, ps, body⟩).wrong with
            | true => rfl
            | false =>
              unfold FT.found at hw
              rw [ST.gather_useL] at hw
              have := use_wrong _ _ _ hw
              rw [hwr] at this; cases this
          rw [this]; rfl
        have HFIT := Lib.hid hfit
        clear hm1 hm2 hq hT hv hwr hfit hsx ec
        go_wp2_with fail
        go_quiet ((go_at_call 42; refine Calls.quiet_of_same (rslot_r _ (ps.take j) sx _ (HTK.out.stay (below_drewN (Below.refl _ _) _)) _ HQ.out)))
        have HSId : Hid (SI W0 (w.heap.size + 1 + 1 + 1) nm ps.length ((ps.take j).foldl FS.param FS.init) (.slice none 0 0) (wr.drewN nq)) := HSI.out.stay (below_drewN (Below.refl _ _) _)
        clear f1 e0
        generalize wr.drewN nq = wd at HSId ⊢
        obtain ⟨vv, av, hbx, hov, hoa⟩ := HSId.out.box
        obtain ⟨va, vc, rfl⟩ := hov.shape
        obtain ⟨aa, ac, rfl⟩ := hoa.shape
        have HRd := Lib.hid ((HSId.out.below.block (w.heap.size + 1 + 1) (by omega)).trans HRB.out)
        have HWd : Hid (Below w.heap.size w wd) := HBA.out.trans (HSId.out.below.mono (by omega))
        have o0 : wd.cell? ⟨(w.heap.size + 1 + 1 + 1), 0, none⟩ = some (.string nm) := cell_of_heap hbx 0
        have o1 : wd.cell? ⟨(w.heap.size + 1 + 1 + 1), 1, none⟩ = some (.int .i64 ps.length) := cell_of_heap hbx 1
        have o2 := cell_of_heap hbx 2
        have o3 := cell_of_heap hbx 3
        simp only [List.getElem?_toArray, List.getElem?_cons_succ, List.getElem?_cons_zero] at o2 o3
        have HOV := Lib.hid hov
        have HOA := Lib.hid hoa
        generalize ((ps.take j).foldl FS.param FS.init).vars = vl at o2 HOV
        generalize ((ps.take j).foldl FS.param FS.init).arrays = al at o3 HOA
        clear hbx hov hoa
        go_wp2_with (refine wpList_store_row rfl 77 (.tmp 4) (.tmp 38) rfl (w.heap.size + 1 + 1) #[.string nm, .int .i64 ps.length, .slice va vl.length vc, .slice aa al.length ac] rfl rfl 77 _ HRd.out (by kernel_rfl) rfl (by kernel_rfl) ?_)
        refine bodyPost_ret (results_cell_tmp9 rfl _ _ (w.heap.size + 1 + 1) 77 #[.string nm, .int .i64 ps.length, .slice va vl.length vc, .slice aa al.length ac] (0, 0) _ rfl (setRow_heap _ _ _ _ _ _ HRd.out) Tryz.underlying77 rfl (by kernel_rfl)) rfl ?_
        exact ⟨_, _, false, vl, al, rfl, below_setRow HWd.out (by omega) _, own_lower (own_setRow9 HOV.out HRd.out) HBA.out.size, own_lower (own_setRow9 HOA.out HRd.out) HBA.out.size, HFIT.out.symm, fun h => by cases h⟩
      · have hd : decide ((0 : Int) ≤ q) = false := decide_eq_false (by rw [← hq, hm2]; decide)
        have hst : ((ps.take (j + 1)).foldl FS.param FS.init).vars = addL ((ps.take j).foldl FS.param FS.init).vars sx ∧ ((ps.take (j + 1)).foldl FS.param FS.init).arrays = ((ps.take j).foldl FS.param FS.init).arrays ∧ ((ps.take (j + 1)).foldl FS.param FS.init).made = ((ps.take j).foldl FS.param FS.init).made ∧ ((ps.take (j + 1)).foldl FS.param FS.init).wrong = false := by
          rw [hT]
          refine ⟨rfl, rfl, rfl, ?_⟩
          show (memB ((ps.take j).foldl FS.param FS.init).vars sx || ((ps.take j).foldl FS.param FS.init).wrong) = false
          rw [hv, HWR.out]
          show (memB (ps.take j) sx || false) = false
          rw [hm1]; rfl
        have hvl : ((ps.take j).foldl FS.param FS.init).vars.length ≤ 100000000 := by
          rw [hv]; show (ps.take j).length ≤ _; rw [List.length_take]; omega
        have HST := Lib.hid hst
        have HVL := Lib.hid hvl
        clear hm1 hm2 hq hT hv hst hvl hsx ec
        go_wp2_with fail
        go_quiet ((go_at_call 42; refine Calls.quiet_of_same (rslot_r _ (ps.take j) sx _ (HTK.out.stay (below_drewN (Below.refl _ _) _)) _ HQ.out)))
        have HSId : Hid (SI W0 (w.heap.size + 1 + 1 + 1) nm ps.length ((ps.take j).foldl FS.param FS.init) (.slice none 0 0) (wr.drewN nq)) := HSI.out.stay (below_drewN (Below.refl _ _) _)
        have f1 : (wr.drewN nq).cell? ⟨w.heap.size + 1, 1, none⟩ = some (.slice (some ⟨tb, tof, none⟩) ps.length pc) := f1
        have ec : (wr.drewN nq).cell? ⟨tb, tof + j, none⟩ = some (.string sx) := HEC.out
        clear e0
        generalize wr.drewN nq = wd at HSId f1 ec ⊢
        have F1 := Lib.hid f1
        have EC := Lib.hid ec
        obtain ⟨vv, av, hbx, hov, hoa⟩ := HSId.out.box
        obtain ⟨va, vc, rfl⟩ := hov.shape
        have HBX := Lib.hid hbx
        have HOV := Lib.hid hov
        have HWS : Hid (W0.heap.size ≤ wd.heap.size) := HSId.out.size
        clear hbx hov hoa f1 ec
        go_upto_region 7 with fail
        refine region_flow rfl 9 rfl (by decide +kernel) [39, 40, 41, 42, 43, 44, 45, 46, 47] (by decide +kernel) rfl (by decide) (by simp) (fun w w' => Below w.heap.size w w') (fun w => Below wd.heap.size wd w)
          (PhiAt 7 (PHo W0.heap.size (addL ((ps.take j).foldl FS.param FS.init).vars sx)) [.pointer (some ⟨(w.heap.size + 1 + 1 + 1), 2, none⟩), .slice va ((ps.take j).foldl FS.param FS.init).vars.length vc, .pointer (some ⟨w.heap.size + 1, 1, none⟩), .slice (some ⟨tb, tof, none⟩) ps.length pc, .int .i64 (j : Int), .pointer (some ⟨tb, tof + j, none⟩), .string sx, undef, .pointer (some ⟨(w.heap.size + 1 + 1 + 1), 2, none⟩)]) (fun j v w w' hS hh => hh.mono (fun h => h.stay hS)) ?hr7 ?hs7 ?hl7
        case hs7 =>
          intro ix hix a wx hR hout hdep
          have hix' : ix = 0 ∨ ix = 1 ∨ ix = 2 ∨ ix = 3 ∨ ix = 4 ∨ ix = 5 ∨ ix = 6 ∨ ix = 7 ∨ ix = 8 := by omega
          rcases hix' with rfl | rfl | rfl | rfl | rfl | rfl | rfl | rfl | rfl
          · have HR := Lib.hid hR
            clear hR
            have e6 := hout 6 (by decide)
            clear hout hdep
            refine op_list (by rfl) ?_
            go_wp2
            exact withK_intro ⟨_, rfl, Below.refl _ _, HR.out, PhiAt.known (by decide)⟩
          · have HR := Lib.hid hR
            clear hR
            have e39 : a.tmps[39]? = some (.pointer (some ⟨(w.heap.size + 1 + 1 + 1), 2, none⟩)) := flow_dep1 hdep 0 39 (by kernel_rfl) rfl (by decide)
            have z0 : wx.cell? ⟨(w.heap.size + 1 + 1 + 1), 2, none⟩ = _ := cell_of_heap ((HR.out.block _ (lt_of_heap HBX.out)).trans HBX.out) 2
            simp only [List.getElem?_toArray, List.getElem?_cons_succ, List.getElem?_cons_zero] at z0
            clear hout hdep
            refine op_list (by rfl) ?_
            go_wp2
            exact withK_intro ⟨_, rfl, Below.refl _ _, HR.out, PhiAt.known (by decide)⟩
          · have HR := Lib.hid hR
            clear hR
            have e3 := hout 3 (by decide)
            clear hout hdep
            refine op_list (by rfl) ?_
            go_wp2
            exact withK_intro ⟨_, rfl, Below.refl _ _, HR.out, PhiAt.known (by decide)⟩
          · have HR := Lib.hid hR
            clear hR
            have e41 : a.tmps[41]? = some (.pointer (some ⟨w.heap.size + 1, 1, none⟩)) := flow_dep1 hdep 2 41 (by kernel_rfl) rfl (by decide)
            have z0 := cellB' HR F1.out
            clear hout hdep
            refine op_list (by rfl) ?_
            go_wp2
            exact withK_intro ⟨_, rfl, Below.refl _ _, HR.out, PhiAt.known (by decide)⟩
          · have HR := Lib.hid hR
            clear hR
            have e7 := hout 7 (by decide)
            clear hout hdep
            refine op_list (by rfl) ?_
            go_wp2
            exact withK_intro ⟨_, rfl, Below.refl _ _, HR.out, PhiAt.known (by decide)⟩
          · have HR := Lib.hid hR
            clear hR
            have e42 : a.tmps[42]? = some (.slice (some ⟨tb, tof, none⟩) ps.length pc) := flow_dep1 hdep 3 42 (by kernel_rfl) rfl (by decide)
            have e43 : a.tmps[43]? = some (.int .i64 (j : Int)) := flow_dep1 hdep 4 43 (by kernel_rfl) rfl (by decide)
            clear hout hdep
            refine op_list (by rfl) ?_
            go_wp2
            exact withK_intro ⟨_, rfl, Below.refl _ _, HR.out, PhiAt.known (by decide)⟩
          · have HR := Lib.hid hR
            clear hR
            have e44 : a.tmps[44]? = some (.pointer (some ⟨tb, tof + j, none⟩)) := flow_dep1 hdep 5 44 (by kernel_rfl) rfl (by decide)
            have z0 := cellB' HR EC.out
            clear hout hdep
            refine op_list (by rfl) ?_
            go_wp2
            exact withK_intro ⟨_, rfl, Below.refl _ _, HR.out, PhiAt.known (by decide)⟩
          · have HR := Lib.hid hR
            clear hR
            have e40 : a.tmps[40]? = some (.slice va ((ps.take j).foldl FS.param FS.init).vars.length vc) := flow_dep1 hdep 1 40 (by kernel_rfl) rfl (by decide)
            have e45 : a.tmps[45]? = some (.string sx) := flow_dep1 hdep 6 45 (by kernel_rfl) rfl (by decide)
            clear hout hdep
            refine op_list (by rfl) ?_
            go_wp2_with (go_at_call 43; refine (with_r W0.heap.size _ (((ps.take j).foldl FS.param FS.init).vars) sx HVL.out _ (Nat.le_trans HWS.out HR.out.size) (HOV.out.stay HR.out)).mono ?_; rintro e w2 ⟨v2, rfl, hb, hv2⟩)
            exact withK_intro ⟨_, rfl, hb, HR.out.trans (hb.mono HR.out.size), PhiAt.one (PHo.of hv2)⟩
          · have HR := Lib.hid hR
            clear hR
            have e6 := hout 6 (by decide)
            clear hout hdep
            refine op_list (by rfl) ?_
            go_wp2
            exact withK_intro ⟨_, rfl, Below.refl _ _, HR.out, PhiAt.known (by decide)⟩
        case hl7 =>
          intro vs wx hR hφ
          have HR := Lib.hid hR
          clear hR
          obtain ⟨v7a, v7c, hv7e, hv7⟩ := (hφ 7 (by omega)).1 rfl
          rw [fill_congr _ [39, 40, 41, 42, 43, 44, 45, 46, 47] vs (fun jx => ([.pointer (some ⟨(w.heap.size + 1 + 1 + 1), 2, none⟩), .slice va ((ps.take j).foldl FS.param FS.init).vars.length vc, .pointer (some ⟨w.heap.size + 1, 1, none⟩), .slice (some ⟨tb, tof, none⟩) ps.length pc, .int .i64 (j : Int), .pointer (some ⟨tb, tof + j, none⟩), .string sx, .slice v7a (addL ((ps.take j).foldl FS.param FS.init).vars sx).length v7c, .pointer (some ⟨(w.heap.size + 1 + 1 + 1), 2, none⟩)] : List Value).getD jx undef) (fun jx hj => by
            by_cases e : jx = 7
            · subst e; assumption
            · have hj' : jx = 0 ∨ jx = 1 ∨ jx = 2 ∨ jx = 3 ∨ jx = 4 ∨ jx = 5 ∨ jx = 6 ∨ jx = 8 := by simp at hj; omega
              rw [(hφ jx hj).2 e]
              rcases hj' with rfl | rfl | rfl | rfl | rfl | rfl | rfl | rfl <;> rfl)]
          clear hφ
          refine op_list (by rfl) ?_
          simp only [fill, fillA, List.getD_cons_zero, List.getD_cons_succ, Nat.reduceAdd]
          have z0 : wx.cell? ⟨(w.heap.size + 1 + 1 + 1), 2, none⟩ = _ := cell_of_heap ((HR.out.block _ (lt_of_heap HBX.out)).trans HBX.out) 2
          simp only [List.getElem?_toArray, List.getElem?_cons_succ, List.getElem?_cons_zero] at z0
          have z1 : wx.frozen? ⟨(w.heap.size + 1 + 1 + 1), 2, none⟩ = false := free_of_heap ((HR.out.block _ (lt_of_heap HBX.out)).trans HBX.out) 2
          have z2 : (v7a, v7c) = (v7a, v7c) := rfl
          rw [hv7e] at hv7
          clear hv7e z2
          have HSIx := Lib.hid (HSId.out.setV HR.out hv7)
          clear hv7
          go_wp2
          refine withK_intro ?_
          go_wp2
          go_roundw
          case rel => exact ⟨j + 1, by go_num, by omega, HSIx.out.of_eq HST.out.1 HST.out.2.1 HST.out.2.2.1, HST.out.2.2.2⟩
          case measure => simp [intOf]; omega
        case hr7 => exact (Below.refl _ _).drew
    · obtain rfl : j = ps.length := by omega
      rw [List.take_length] at HSI HWR
      have hle := params_le ps FS.init 0 ⟨Nat.zero_le _, Nat.zero_le _, Nat.zero_le _⟩
      have hfd : FT.found p.funcs ⟨nm, ps, body⟩ = (ST.usesL body).foldl (FS.use (callB p.funcs)) (ps.foldl FS.param FS.init) := ST.gather_useL _ _ _
      have HUK := Lib.hid (ST.usesL_ok body)
      generalize ps.foldl FS.param FS.init = st0 at HSI HWR hle hfd
      have HLE := Lib.hid hle
      have HFD := Lib.hid hfd
      have f2 : wr.cell? ⟨w.heap.size + 1, 2, none⟩ = some (.slice ba body.length bc) := cell_of_heap HFr.out 2
      have HPBr := Lib.hid ((HSI.out.below.block w.heap.size (by omega)).trans HPB.out)
      clear hle hfd
      go_wp2_with (go_at_call 44; refine (rusesS_in w HBV.out HUL.out wr HWr.out).mono ?_; rintro e w2 ⟨uv, rfl, hb, hu⟩; have hu' := own_lower hu HSI.out.size; obtain ⟨ua, uc, rfl⟩ := OwnU.shape hu'; have HSI2 := Lib.hid (HSI.out.stay hb); have HOU2 : Hid (OwnU W0.heap.size w2 (.slice ua (ST.usesL body).length uc) (ST.usesL body)) := hu'; clear hu hu' hb)
      generalize ST.usesL body = us at HUL HUK HFD HOU2 ⊢
      go_loopw [8, 10] (fun mv i wr => ∃ j : Nat, i = .int .i64 j ∧ j ≤ us.length ∧ Hid (SI W0 (w.heap.size + 1 + 1 + 1) nm ps.length ((us.take j).foldl (FS.use (callB p.funcs)) st0) mv wr) ∧ Hid (((us.take j).foldl (FS.use (callB p.funcs)) st0).wrong = false) ∧ Hid (OwnU W0.heap.size wr (.slice ua us.length uc) us)) (fun _ i _ => us.length - (intOf i).toNat)
      case atStart => exact ⟨0, rfl, Nat.zero_le _, HSI2.out, HWR.out, HOU2.out⟩
      case round =>
        obtain ⟨j, rfl, hj, HSI3, HWR3, HOU3⟩ := hrel
        have HWr3 : Hid (Below w.heap.size w wr) := HBA.out.trans (HSI3.out.below.mono (by omega))
        by_cases hlt : j < us.length
        · obtain ⟨ub, uo, rfl, c0, c1, c2⟩ := HOU3.out.at9 j hlt
          have hT := use_take (callB p.funcs) us st0 j hlt
          have hok := HUK.out (us.getD j default) (by rw [List.getD_eq_getElem?_getD, List.getElem?_eq_getElem hlt]; exact List.getElem_mem hlt)
          have hlen := uses_len (callB p.funcs) (us.take j) st0 _ HLE.out
          generalize us.getD j default = x at c0 c1 c2 hT hok
          obtain ⟨hk, m, hm⟩ := hok
          obtain ⟨kd, pt, sx⟩ := x
          dsimp only at c0 c1 c2 hk hm
          subst hm
          have hjI : (j : Int) < us.length := by omega
          have hul7 : us.length ≤ 10000000 := HUL.out
          have hl3 : ((us.take j).foldl (FS.use (callB p.funcs)) st0).le 100000000 := by
            have := HUL.out
            rw [List.length_take] at hlen
            exact ⟨by have := hlen.1; omega, by have := hlen.2.1; omega, by have := hlen.2.2; omega⟩
          have HL3 := Lib.hid hl3
          have HT := Lib.hid hT
          clear hlen hl3 hT
          generalize (us.take j).foldl (FS.use (callB p.funcs)) st0 = st at HSI3 HWR3 HL3 HT
          obtain ⟨vv, av, hbx, hov, hoa⟩ := HSI3.out.box
          obtain ⟨va, vc, rfl⟩ := hov.shape
          obtain ⟨aa, ac, rfl⟩ := hoa.shape
          obtain ⟨ma, mc, rfl⟩ := HSI3.out.made.shape
          have HBX := Lib.hid hbx
          have HOV := Lib.hid hov
          have HOA := Lib.hid hoa
          clear hbx hov hoa f1 f2
          rcases hk with rfl | rfl | rfl | rfl
          · have HA : Hid (Below wr.heap.size wr (wr.alloc (.cells #[.int .i64 1, .int .i64 (m : Int), .string sx] 114))) := (Below.refl _ _).alloc (Nat.le_refl _) _
            have HSIa := Lib.hid (HSI3.out.stay HA.out)
            have HOUa := Lib.hid (HOU3.out.stay HA.out)
            have HBXa := Lib.hid ((HA.out.block _ (lt_of_heap HBX.out)).trans HBX.out)
            have HUB : Hid ((wr.alloc (.cells #[.int .i64 1, .int .i64 (m : Int), .string sx] 114)).heap[wr.heap.size]? = some (.cells #[.int .i64 1, .int .i64 (m : Int), .string sx] 114 (0, 0))) := heap_alloc_new _ _
            have HWa : Hid (Below w.heap.size w (wr.alloc (.cells #[.int .i64 1, .int .i64 (m : Int), .string sx] 114))) := hb_alloc HWr3 _
            have HSZa : Hid (W0.heap.size ≤ (wr.alloc (.cells #[.int .i64 1, .int .i64 (m : Int), .string sx] 114)).heap.size) := HSIa.out.size
            have HOVa := Lib.hid (HOV.out.stay HA.out)
            have HOAa := Lib.hid (HOA.out.stay HA.out)
            have u0 := cell_of_heap HUB.out 0
            have u1 := cell_of_heap HUB.out 1
            have u2 := cell_of_heap HUB.out 2
            have x2 := cell_of_heap HBXa.out 2
            have x3 := cell_of_heap HBXa.out 3
            simp only [List.getElem?_toArray, List.getElem?_cons_succ, List.getElem?_cons_zero] at u0 u1 u2 x2 x3
            go_wp2_with (go_at_call 43; refine (with_r W0.heap.size (.slice va st.vars.length vc) st.vars sx HL3.out.1 _ HSZa.out HOVa.out).mono ?_; rintro e w2 ⟨v2, rfl, hb, hv2⟩; obtain ⟨v2a, v2c, rfl⟩ := hv2.shape; have hbx2 := (hb.block _ (lt_of_heap HBXa.out)).trans HBXa.out; have hub2 := (hb.block _ (lt_of_heap HUB.out)).trans HUB.out; have y0 := cell_of_heap hbx2 2; have y1 : w2.frozen? ⟨(w.heap.size + 1 + 1 + 1), 2, none⟩ = false := free_of_heap hbx2 2; have hne : wr.heap.size ≠ (w.heap.size + 1 + 1 + 1) := fun e => (by have := lt_of_heap HBX.out; omega); have hub3 : (w2.setCell ⟨(w.heap.size + 1 + 1 + 1), 2, none⟩ (.slice v2a (addL st.vars sx).length v2c)).heap[wr.heap.size]? = some (.cells #[.int .i64 1, .int .i64 (m : Int), .string sx] 114 (0, 0)) := (Below.heap_setCell w2 ⟨(w.heap.size + 1 + 1 + 1), 2, none⟩ _ _ hne).trans hub2; have y2 := cell_of_heap hub3 0; have y3 := cell_of_heap hub3 2; simp only [List.getElem?_toArray, List.getElem?_cons_succ, List.getElem?_cons_zero] at y0 y2 y3; have HSI4 := Lib.hid (HSIa.out.setV hb hv2); have HOU4 := Lib.hid (OwnU.set9 (ob := (w.heap.size + 1 + 1 + 1)) (j := 2) (x := .slice v2a (addL st.vars sx).length v2c) (HOUa.out.stay hb) hbx2); clear hb hv2 hbx2 hub2 hub3 hne)
            go_roundw
            case rel =>
              refine ⟨j + 1, by go_num, by omega, ?_, ?_, HOU4.out⟩
              · rw [HT.out]; exact HSI4.out.of_eq rfl rfl rfl
              · rw [HT.out]; exact HWR3.out
            case measure => simp [intOf]; omega
          · have HA : Hid (Below wr.heap.size wr (wr.alloc (.cells #[.int .i64 2, .int .i64 (m : Int), .string sx] 114))) := (Below.refl _ _).alloc (Nat.le_refl _) _
            have HSIa := Lib.hid (HSI3.out.stay HA.out)
            have HOUa := Lib.hid (HOU3.out.stay HA.out)
            have HBXa := Lib.hid ((HA.out.block _ (lt_of_heap HBX.out)).trans HBX.out)
            have HUB : Hid ((wr.alloc (.cells #[.int .i64 2, .int .i64 (m : Int), .string sx] 114)).heap[wr.heap.size]? = some (.cells #[.int .i64 2, .int .i64 (m : Int), .string sx] 114 (0, 0))) := heap_alloc_new _ _
            have HWa : Hid (Below w.heap.size w (wr.alloc (.cells #[.int .i64 2, .int .i64 (m : Int), .string sx] 114))) := hb_alloc HWr3 _
            have HSZa : Hid (W0.heap.size ≤ (wr.alloc (.cells #[.int .i64 2, .int .i64 (m : Int), .string sx] 114)).heap.size) := HSIa.out.size
            have HOVa := Lib.hid (HOV.out.stay HA.out)
            have HOAa := Lib.hid (HOA.out.stay HA.out)
            have u0 := cell_of_heap HUB.out 0
            have u1 := cell_of_heap HUB.out 1
            have u2 := cell_of_heap HUB.out 2
            have x2 := cell_of_heap HBXa.out 2
            have x3 := cell_of_heap HBXa.out 3
            simp only [List.getElem?_toArray, List.getElem?_cons_succ, List.getElem?_cons_zero] at u0 u1 u2 x2 x3
            go_wp2_with (go_at_call 43; refine (with_r W0.heap.size (.slice aa st.arrays.length ac) st.arrays sx HL3.out.2.1 _ HSZa.out HOAa.out).mono ?_; rintro e w2 ⟨v2, rfl, hb, hv2⟩; obtain ⟨v2a, v2c, rfl⟩ := hv2.shape; have hbx2 := (hb.block _ (lt_of_heap HBXa.out)).trans HBXa.out; have hub2 := (hb.block _ (lt_of_heap HUB.out)).trans HUB.out; have y0 := cell_of_heap hbx2 3; have y1 : w2.frozen? ⟨(w.heap.size + 1 + 1 + 1), 3, none⟩ = false := free_of_heap hbx2 3; have hne : wr.heap.size ≠ (w.heap.size + 1 + 1 + 1) := fun e => (by have := lt_of_heap HBX.out; omega); have hub3 : (w2.setCell ⟨(w.heap.size + 1 + 1 + 1), 3, none⟩ (.slice v2a (addL st.arrays sx).length v2c)).heap[wr.heap.size]? = some (.cells #[.int .i64 2, .int .i64 (m : Int), .string sx] 114 (0, 0)) := (Below.heap_setCell w2 ⟨(w.heap.size + 1 + 1 + 1), 3, none⟩ _ _ hne).trans hub2; have y2 := cell_of_heap hub3 0; have y3 := cell_of_heap hub3 2; simp only [List.getElem?_toArray, List.getElem?_cons_succ, List.getElem?_cons_zero] at y0 y2 y3; have HSI4 := Lib.hid (HSIa.out.setA hb hv2); have HOU4 := Lib.hid (OwnU.set9 (ob := (w.heap.size + 1 + 1 + 1)) (j := 3) (x := .slice v2a (addL st.arrays sx).length v2c) (HOUa.out.stay hb) hbx2); clear hb hv2 hbx2 hub2 hub3 hne)
            go_roundw
            case rel =>
              refine ⟨j + 1, by go_num, by omega, ?_, ?_, HOU4.out⟩
              · rw [HT.out]; exact HSI4.out.of_eq rfl rfl rfl
              · rw [HT.out]; exact HWR3.out
            case measure => simp [intOf]; omega
          · have HA : Hid (Below wr.heap.size wr (wr.alloc (.cells #[.int .i64 3, .int .i64 (m : Int), .string sx] 114))) := (Below.refl _ _).alloc (Nat.le_refl _) _
            have HSIa := Lib.hid (HSI3.out.stay HA.out)
            have HOUa := Lib.hid (HOU3.out.stay HA.out)
            have HBXa := Lib.hid ((HA.out.block _ (lt_of_heap HBX.out)).trans HBX.out)
            have HUB : Hid ((wr.alloc (.cells #[.int .i64 3, .int .i64 (m : Int), .string sx] 114)).heap[wr.heap.size]? = some (.cells #[.int .i64 3, .int .i64 (m : Int), .string sx] 114 (0, 0))) := heap_alloc_new _ _
            have HWa : Hid (Below w.heap.size w (wr.alloc (.cells #[.int .i64 3, .int .i64 (m : Int), .string sx] 114))) := hb_alloc HWr3 _
            have HSZa : Hid (W0.heap.size ≤ (wr.alloc (.cells #[.int .i64 3, .int .i64 (m : Int), .string sx] 114)).heap.size) := HSIa.out.size
            have HOVa := Lib.hid (HOV.out.stay HA.out)
            have HOAa := Lib.hid (HOA.out.stay HA.out)
            have u0 := cell_of_heap HUB.out 0
            have u1 := cell_of_heap HUB.out 1
            have u2 := cell_of_heap HUB.out 2
            have x2 := cell_of_heap HBXa.out 2
            have x3 := cell_of_heap HBXa.out 3
            simp only [List.getElem?_toArray, List.getElem?_cons_succ, List.getElem?_cons_zero] at u0 u1 u2 x2 x3
            go_upto_region 23 with (go_at_call 43; refine (with_r W0.heap.size (.slice aa st.arrays.length ac) st.arrays sx HL3.out.2.1 _ HSZa.out HOAa.out).mono ?_; rintro e w2 ⟨v2, rfl, hb, hv2⟩; obtain ⟨v2a, v2c, rfl⟩ := hv2.shape; have hbx2 := (hb.block _ (lt_of_heap HBXa.out)).trans HBXa.out; have hub2 := (hb.block _ (lt_of_heap HUB.out)).trans HUB.out; have y0 := cell_of_heap hbx2 3; have y1 : w2.frozen? ⟨(w.heap.size + 1 + 1 + 1), 3, none⟩ = false := free_of_heap hbx2 3; have hne : wr.heap.size ≠ (w.heap.size + 1 + 1 + 1) := fun e => (by have := lt_of_heap HBX.out; omega); have hub3 : (w2.setCell ⟨(w.heap.size + 1 + 1 + 1), 3, none⟩ (.slice v2a (addL st.arrays sx).length v2c)).heap[wr.heap.size]? = some (.cells #[.int .i64 3, .int .i64 (m : Int), .string sx] 114 (0, 0)) := (Below.heap_setCell w2 ⟨(w.heap.size + 1 + 1 + 1), 3, none⟩ _ _ hne).trans hub2; have y2 := cell_of_heap hub3 0; have y3 := cell_of_heap hub3 2; simp only [List.getElem?_toArray, List.getElem?_cons_succ, List.getElem?_cons_zero] at y0 y2 y3; have HSI4 := Lib.hid (HSIa.out.setA hb hv2); have HOU4 := Lib.hid (OwnU.set9 (ob := (w.heap.size + 1 + 1 + 1)) (j := 3) (x := .slice v2a (addL st.arrays sx).length v2c) (HOUa.out.stay hb) hbx2); clear hb hv2 hbx2 hub2 hub3 hne)
            go_wp2_with (go_at_call 43; refine (with_r W0.heap.size (.slice ma st.made.length mc) st.made sx HL3.out.2.2 _ HSI4.out.size HSI4.out.made).mono ?_; rintro e w4 ⟨v4, rfl, hb, hv4⟩; obtain ⟨v4a, v4c, rfl⟩ := hv4.shape; have HSI5 := Lib.hid (HSI4.out.setM hb hv4); have HOU5 := Lib.hid (HOU4.out.stay hb); clear hb hv4)
            go_roundw
            case rel =>
              refine ⟨j + 1, by go_num, by omega, ?_, ?_, HOU5.out⟩
              · rw [HT.out]; exact HSI5.out.of_eq rfl rfl rfl
              · rw [HT.out]; exact HWR3.out
            case measure => simp [intOf]; omega
          · have HA : Hid (Below wr.heap.size wr (wr.alloc (.cells #[.int .i64 4, .int .i64 (m : Int), .string sx] 114))) := (Below.refl _ _).alloc (Nat.le_refl _) _
            have HSIa := Lib.hid (HSI3.out.stay HA.out)
            have HOUa := Lib.hid (HOU3.out.stay HA.out)
            have HBXa := Lib.hid ((HA.out.block _ (lt_of_heap HBX.out)).trans HBX.out)
            have HUB : Hid ((wr.alloc (.cells #[.int .i64 4, .int .i64 (m : Int), .string sx] 114)).heap[wr.heap.size]? = some (.cells #[.int .i64 4, .int .i64 (m : Int), .string sx] 114 (0, 0))) := heap_alloc_new _ _
            have HWa : Hid (Below w.heap.size w (wr.alloc (.cells #[.int .i64 4, .int .i64 (m : Int), .string sx] 114))) := hb_alloc HWr3 _
            have HSZa : Hid (W0.heap.size ≤ (wr.alloc (.cells #[.int .i64 4, .int .i64 (m : Int), .string sx] 114)).heap.size) := HSIa.out.size
            have HOVa := Lib.hid (HOV.out.stay HA.out)
            have HOAa := Lib.hid (HOA.out.stay HA.out)
            have u0 := cell_of_heap HUB.out 0
            have u1 := cell_of_heap HUB.out 1
            have u2 := cell_of_heap HUB.out 2
            have x2 := cell_of_heap HBXa.out 2
            have x3 := cell_of_heap HBXa.out 3
            simp only [List.getElem?_toArray, List.getElem?_cons_succ, List.getElem?_cons_zero] at u0 u1 u2 x2 x3
            have q0 := cell_of_heap ((HSIa.out.below.block w.heap.size (by omega)).trans HPB.out) 0
            have q1 := cell_of_heap ((HSIa.out.below.block w.heap.size (by omega)).trans HPB.out) 1
            simp only [List.getElem?_toArray, List.getElem?_cons_succ, List.getElem?_cons_zero] at q0 q1
            cases hq : callB p.funcs sx m with
            | true =>
              go_wp2_with (go_at_call 45; refine (ruright_r a1 a2 n1 n2 k1 k2 p 4 m sx hn32 _ (HP.out.stay HWa.out) true hq).mono ?_; rintro e w2 ⟨rfl, hb⟩; have hbx2 := (hb.block _ (lt_of_heap HBXa.out)).trans HBXa.out; have hub2 := (hb.block _ (lt_of_heap HUB.out)).trans HUB.out; have HSI4 := Lib.hid (HSIa.out.stay hb); have HOU4 := Lib.hid (HOUa.out.stay hb); have HB4 := Lib.hid (HWa.out.trans (hb.mono HWa.out.size)); have y0 := cell_of_heap hub2 0; have y2 := cell_of_heap hub2 2; have o0 := cell_of_heap hbx2 0; have o1 := cell_of_heap hbx2 1; have o2 := cell_of_heap hbx2 2; have o3 := cell_of_heap hbx2 3; simp only [List.getElem?_toArray, List.getElem?_cons_succ, List.getElem?_cons_zero] at y0 y2 o0 o1 o2 o3; have HRd := Lib.hid ((HSI4.out.below.block (w.heap.size + 1 + 1) (by omega)).trans HRB.out); have HOV4 := Lib.hid (HOVa.out.stay hb); have HOA4 := Lib.hid (HOAa.out.stay hb); clear hb hbx2 hub2)
              go_roundw
              case rel =>
                refine ⟨j + 1, by go_num, by omega, ?_, ?_, HOU4.out⟩
                · rw [HT.out]; exact HSI4.out.of_eq (by simp [FS.use]) (by simp [FS.use]) (by simp [FS.use])
                · rw [HT.out]; exact (by show (st.wrong || !callB p.funcs sx (Int.toNat (m : Int))) = false; rw [Int.toNat_natCast, hq, HWR3.out]; rfl)
              case measure => simp [intOf]; omega
            | false =>
              have hfit : (FT.found p.funcs ⟨nm, ps, body⟩).fits = false := by
                have hw : (FT.found p.funcs ⟨nm, ps, body⟩).wrong = true := by
                  cases hw : (FT.found p.funcs ⟨nm, ps, body⟩).wrong with
                  | true => rfl
                  | false =>
                    exfalso
                    rw [HFD.out, ← List.take_append_drop (j + 1) us, List.foldl_append] at hw
                    have h1 := use_wrong _ _ _ hw
                    rw [HT.out] at h1
                    have h2 : (st.wrong || !callB p.funcs sx (Int.toNat (m : Int))) = false := h1
                    rw [Int.toNat_natCast, hq] at h2
                    simp at h2
                unfold FS.fits; rw [hw]; rfl
              have HFIT := Lib.hid hfit
              clear hfit
              go_wp2_with (first
                | (go_at_call 45; refine (ruright_r a1 a2 n1 n2 k1 k2 p 4 m sx hn32 _ (HP.out.stay HWa.out) false hq).mono ?_; rintro e w2 ⟨rfl, hb⟩; have hbx2 := (hb.block _ (lt_of_heap HBXa.out)).trans HBXa.out; have hub2 := (hb.block _ (lt_of_heap HUB.out)).trans HUB.out; have HSI4 := Lib.hid (HSIa.out.stay hb); have HOU4 := Lib.hid (HOUa.out.stay hb); have HB4 := Lib.hid (HWa.out.trans (hb.mono HWa.out.size)); have y0 := cell_of_heap hub2 0; have y2 := cell_of_heap hub2 2; have o0 := cell_of_heap hbx2 0; have o1 := cell_of_heap hbx2 1; have o2 := cell_of_heap hbx2 2; have o3 := cell_of_heap hbx2 3; simp only [List.getElem?_toArray, List.getElem?_cons_succ, List.getElem?_cons_zero] at y0 y2 o0 o1 o2 o3; have HRd := Lib.hid ((HSI4.out.below.block (w.heap.size + 1 + 1) (by omega)).trans HRB.out); have HOV4 := Lib.hid (HOVa.out.stay hb); have HOA4 := Lib.hid (HOAa.out.stay hb); clear hb hbx2 hub2)
                | (refine wpList_store_row rfl 77 (.tmp 4) (.tmp 69) rfl (w.heap.size + 1 + 1) #[.string nm, .int .i64 ps.length, .slice va st.vars.length vc, .slice aa st.arrays.length ac] rfl rfl 77 _ HRd.out (by kernel_rfl) rfl (by kernel_rfl) ?_))
              refine bodyPost_ret (results_cell_tmp9 rfl _ _ (w.heap.size + 1 + 1) 77 #[.string nm, .int .i64 ps.length, .slice va st.vars.length vc, .slice aa st.arrays.length ac] (0, 0) _ rfl (setRow_heap _ _ _ _ _ _ HRd.out) Tryz.underlying77 rfl (by kernel_rfl)) rfl ?_
              exact ⟨_, _, false, st.vars, st.arrays, rfl, below_setRow HB4.out (by omega) _, own_lower (own_setRow9 HOV4.out HRd.out) HBA.out.size, own_lower (own_setRow9 HOA4.out HRd.out) HBA.out.size, HFIT.out.symm, fun h => by cases h⟩
        · obtain rfl : j = us.length := by omega
          rw [List.take_length] at HSI3 HWR3
          have hlen := uses_len (callB p.funcs) us st0 _ HLE.out
          have hul7 : us.length ≤ 10000000 := HUL.out
          have hfd := HFD.out
          generalize us.foldl (FS.use (callB p.funcs)) st0 = st at HSI3 HWR3 hlen hfd
          have HFS := Lib.hid hfd
          have hal : st.arrays.length ≤ 20000000 := by have := hlen.2.1; omega
          obtain ⟨ma, mc, rfl⟩ := HSI3.out.made.shape
          have xb3 : ∃ vv av, wr.heap[(w.heap.size + 1 + 1 + 1)]? = some (.cells #[.string nm, .int .i64 ps.length, vv, av] 77 (0, 0)) ∧ OwnS W0.heap.size wr vv st.vars ∧ OwnS W0.heap.size wr av st.arrays := HSI3.out.box
          clear hlen hfd f1 f2 hlt hj xb3
          go_wp2_with fail
          go_loopw [13] (fun i wr => ∃ k : Nat, i = .int .i64 k ∧ k ≤ st.arrays.length ∧ Hid (SI W0 (w.heap.size + 1 + 1 + 1) nm ps.length st (.slice ma st.made.length mc) wr) ∧ Hid (∀ q, q < k → strangeB st (st.arrays.getD q ByteArray.empty) = false)) (fun i _ => st.arrays.length - (intOf i).toNat)
          case atStart => exact ⟨0, rfl, Nat.zero_le _, HSI3.out, fun q hq => absurd hq (by omega)⟩
          case round =>
            obtain ⟨k, rfl, hk, HSI4, HSTR⟩ := hrel
            obtain ⟨vv, av, hbx, hov, hoa⟩ := HSI4.out.box
            obtain ⟨va, vc, rfl⟩ := hov.shape
            obtain ⟨aa, ac, rfl⟩ := hoa.shape
            have HWr4 : Hid (Below w.heap.size w wr) := HBA.out.trans (HSI4.out.below.mono (by omega))
            have HBX := Lib.hid hbx
            have HOV := Lib.hid hov
            have HOA := Lib.hid hoa
            clear hbx hov hoa
            have o0 := cell_of_heap HBX.out 0
            have o1 := cell_of_heap HBX.out 1
            have o2 := cell_of_heap HBX.out 2
            have o3 := cell_of_heap HBX.out 3
            simp only [List.getElem?_toArray, List.getElem?_cons_succ, List.getElem?_cons_zero] at o0 o1 o2 o3
            by_cases hlt : k < st.arrays.length
            · obtain ⟨tb, tof, rfl, ec⟩ := HOA.out.tsl.at9 k hlt
              obtain ⟨sx, hsx⟩ : ∃ x, st.arrays.getD k ByteArray.empty = x := ⟨_, rfl⟩
              rw [hsx] at ec
              have HSX := Lib.hid hsx
              obtain ⟨q1, hq1⟩ : ∃ q, slotI st.made sx = q := ⟨_, rfl⟩
              have HQ1 := Lib.hid hq1
              obtain ⟨q2, hq2⟩ : ∃ q, slotI st.vars sx = q := ⟨_, rfl⟩
              have HQ2 := Lib.hid hq2
              have HTM : Hid (TSl wr (.slice ma st.made.length mc) st.made) := HSI4.out.made.tsl
              have HTV : Hid (TSl wr (.slice va st.vars.length vc) st.vars) := HOV.out.tsl
              have hkI : (k : Int) < st.arrays.length := by omega
              have hc : (strangeB st sx = true ∧ decide (q1 < 0) = true) ∨ (strangeB st sx = true ∧ decide (q1 < 0) = false ∧ decide ((0 : Int) ≤ q2) = true) ∨ (strangeB st sx = false ∧ decide (q1 < 0) = false ∧ decide ((0 : Int) ≤ q2) = false) := by
                unfold strangeB
                rcases slot_mem st.made sx with ⟨m1, m2⟩ | ⟨m1, m2⟩
                · rcases slot_mem st.vars sx with ⟨m3, m4⟩ | ⟨m3, m4⟩
                  · exact .inr (.inl ⟨by rw [m3, m1]; rfl, decide_eq_false (by omega), decide_eq_true (by omega)⟩)
                  · exact .inr (.inr ⟨by rw [m3, m1]; rfl, decide_eq_false (by omega), decide_eq_false (by omega)⟩)
                · exact .inl ⟨by rw [m1]; simp, decide_eq_true (by omega)⟩
              have hno : strangeB st sx = true → (FT.found p.funcs ⟨nm, ps, body⟩).fits = false := fun h => by
                rw [HFS.out]
                unfold FS.fits
                rw [any_true ByteArray.empty k hlt (by rw [hsx]; exact h)]
                simp
              have HNO := Lib.hid hno
              clear hsx hq1 hq2 hno
              rcases hc with ⟨hs1, hd1⟩ | ⟨hs1, hd1, hd2⟩ | ⟨hs1, hd1, hd2⟩
              · have HFIT := Lib.hid (HNO.out hs1)
                clear hs1
                go_wp2_with fail
                go_quiet ((go_at_call 42; first | (with_reducible refine Calls.quiet_of_same (rslot_r (.slice ma st.made.length mc) st.made sx _ (HTM.out.stay (below_drewN (Below.refl _ _) _)) _ HQ1.out)) | (with_reducible refine Calls.quiet_of_same (rslot_r (.slice va st.vars.length vc) st.vars sx _ (HTV.out.stay (below_drewN (Below.refl _ _) _)) _ HQ2.out))))
                have HSId : Hid (SI W0 (w.heap.size + 1 + 1 + 1) nm ps.length st (.slice ma st.made.length mc) (wr.drewN nq)) := HSI4.out.stay (below_drewN (Below.refl _ _) _)
                have HOVd : Hid (OwnS W0.heap.size (wr.drewN nq) (.slice va st.vars.length vc) st.vars) := HOV.out.stay (below_drewN (Below.refl _ _) _)
                have HOAd : Hid (OwnS W0.heap.size (wr.drewN nq) (.slice (some ⟨tb, tof, none⟩) st.arrays.length ac) st.arrays) := HOA.out.stay (below_drewN (Below.refl _ _) _)
                have HBXd : Hid ((wr.drewN nq).heap[(w.heap.size + 1 + 1 + 1)]? = some (.cells #[.string nm, .int .i64 ps.length, .slice va st.vars.length vc, .slice (some ⟨tb, tof, none⟩) st.arrays.length ac] 77 (0, 0))) := HBX.out
                clear o0 o1 o2 o3 ec
                generalize wr.drewN nq = wd at HSId HOVd HOAd HBXd ⊢
                have o0 := cell_of_heap HBXd.out 0
                have o1 := cell_of_heap HBXd.out 1
                have o2 := cell_of_heap HBXd.out 2
                have o3 := cell_of_heap HBXd.out 3
                simp only [List.getElem?_toArray, List.getElem?_cons_succ, List.getElem?_cons_zero] at o0 o1 o2 o3
                have HRd := Lib.hid ((HSId.out.below.block (w.heap.size + 1 + 1) (by omega)).trans HRB.out)
                have HWd : Hid (Below w.heap.size w wd) := HBA.out.trans (HSId.out.below.mono (by omega))
                go_wp2_with (refine wpList_store_row rfl 77 (.tmp 4) (.tmp 126) rfl (w.heap.size + 1 + 1) #[.string nm, .int .i64 ps.length, .slice va st.vars.length vc, .slice (some ⟨tb, tof, none⟩) st.arrays.length ac] rfl rfl 77 _ HRd.out (by kernel_rfl) rfl (by kernel_rfl) ?_)
                refine bodyPost_ret (results_cell_tmp9 rfl _ _ (w.heap.size + 1 + 1) 77 #[.string nm, .int .i64 ps.length, .slice va st.vars.length vc, .slice (some ⟨tb, tof, none⟩) st.arrays.length ac] (0, 0) _ rfl (setRow_heap _ _ _ _ _ _ HRd.out) Tryz.underlying77 rfl (by kernel_rfl)) rfl ?_
                exact ⟨_, _, false, st.vars, st.arrays, rfl, below_setRow HWd.out (by omega) _, own_lower (own_setRow9 HOVd.out HRd.out) HBA.out.size, own_lower (own_setRow9 HOAd.out HRd.out) HBA.out.size, HFIT.out.symm, fun h => by cases h⟩
              · have HFIT := Lib.hid (HNO.out hs1)
                clear hs1
                go_wp2_with fail
                go_quiet ((go_at_call 42; first | (with_reducible refine Calls.quiet_of_same (rslot_r (.slice ma st.made.length mc) st.made sx _ (HTM.out.stay (below_drewN (Below.refl _ _) _)) _ HQ1.out)) | (with_reducible refine Calls.quiet_of_same (rslot_r (.slice va st.vars.length vc) st.vars sx _ (HTV.out.stay (below_drewN (Below.refl _ _) _)) _ HQ2.out))))
                have HSId : Hid (SI W0 (w.heap.size + 1 + 1 + 1) nm ps.length st (.slice ma st.made.length mc) (wr.drewN nq)) := HSI4.out.stay (below_drewN (Below.refl _ _) _)
                have HOVd : Hid (OwnS W0.heap.size (wr.drewN nq) (.slice va st.vars.length vc) st.vars) := HOV.out.stay (below_drewN (Below.refl _ _) _)
                have HOAd : Hid (OwnS W0.heap.size (wr.drewN nq) (.slice (some ⟨tb, tof, none⟩) st.arrays.length ac) st.arrays) := HOA.out.stay (below_drewN (Below.refl _ _) _)
                have HBXd : Hid ((wr.drewN nq).heap[(w.heap.size + 1 + 1 + 1)]? = some (.cells #[.string nm, .int .i64 ps.length, .slice va st.vars.length vc, .slice (some ⟨tb, tof, none⟩) st.arrays.length ac] 77 (0, 0))) := HBX.out
                clear o0 o1 o2 o3 ec
                generalize wr.drewN nq = wd at HSId HOVd HOAd HBXd ⊢
                have o0 := cell_of_heap HBXd.out 0
                have o1 := cell_of_heap HBXd.out 1
                have o2 := cell_of_heap HBXd.out 2
                have o3 := cell_of_heap HBXd.out 3
                simp only [List.getElem?_toArray, List.getElem?_cons_succ, List.getElem?_cons_zero] at o0 o1 o2 o3
                have HRd := Lib.hid ((HSId.out.below.block (w.heap.size + 1 + 1) (by omega)).trans HRB.out)
                have HWd : Hid (Below w.heap.size w wd) := HBA.out.trans (HSId.out.below.mono (by omega))
                go_wp2_with (refine wpList_store_row rfl 77 (.tmp 4) (.tmp 126) rfl (w.heap.size + 1 + 1) #[.string nm, .int .i64 ps.length, .slice va st.vars.length vc, .slice (some ⟨tb, tof, none⟩) st.arrays.length ac] rfl rfl 77 _ HRd.out (by kernel_rfl) rfl (by kernel_rfl) ?_)
                refine bodyPost_ret (results_cell_tmp9 rfl _ _ (w.heap.size + 1 + 1) 77 #[.string nm, .int .i64 ps.length, .slice va st.vars.length vc, .slice (some ⟨tb, tof, none⟩) st.arrays.length ac] (0, 0) _ rfl (setRow_heap _ _ _ _ _ _ HRd.out) Tryz.underlying77 rfl (by kernel_rfl)) rfl ?_
                exact ⟨_, _, false, st.vars, st.arrays, rfl, below_setRow HWd.out (by omega) _, own_lower (own_setRow9 HOVd.out HRd.out) HBA.out.size, own_lower (own_setRow9 HOAd.out HRd.out) HBA.out.size, HFIT.out.symm, fun h => by cases h⟩
              · have HS1 := Lib.hid hs1
                clear hs1
                go_wp2_with fail
                go_quiet ((go_at_call 42; first | (with_reducible refine Calls.quiet_of_same (rslot_r (.slice ma st.made.length mc) st.made sx _ (HTM.out.stay (below_drewN (Below.refl _ _) _)) _ HQ1.out)) | (with_reducible refine Calls.quiet_of_same (rslot_r (.slice va st.vars.length vc) st.vars sx _ (HTV.out.stay (below_drewN (Below.refl _ _) _)) _ HQ2.out))))
                go_wp2_with fail
                go_roundw
                case rel =>
                  refine ⟨k + 1, by go_num, by omega, HSI4.out.stay (below_drewN (Below.refl _ _) _), fun i hi => ?_⟩
                  rcases Nat.lt_or_ge i k with h | h
                  · exact HSTR.out i h
                  · obtain rfl : i = k := by omega
                    rw [HSX.out]; exact HS1.out
                case measure => simp [intOf]; omega
            · obtain rfl : k = st.arrays.length := by omega
              have HFIT : Hid ((FT.found p.funcs ⟨nm, ps, body⟩).fits = true) := by
                show _ = _
                rw [HFS.out]
                unfold FS.fits
                rw [HWR3.out, any_none ByteArray.empty (fun i hi => HSTR.out i hi)]; rfl
              have HRd := Lib.hid ((HSI4.out.below.block (w.heap.size + 1 + 1) (by omega)).trans HRB.out)
              go_wp2_with (refine wpList_store_row rfl 77 (.tmp 4) (.tmp 127) rfl (w.heap.size + 1 + 1) #[.string nm, .int .i64 ps.length, .slice va st.vars.length vc, .slice aa st.arrays.length ac] rfl rfl 77 _ HRd.out (by kernel_rfl) rfl (by kernel_rfl) ?_)
              refine bodyPost_ret (results_cell_tmp9 rfl _ _ (w.heap.size + 1 + 1) 77 #[.string nm, .int .i64 ps.length, .slice va st.vars.length vc, .slice aa st.arrays.length ac] (0, 0) _ rfl (setRow_heap _ _ _ _ _ _ HRd.out) Tryz.underlying77 rfl (by kernel_rfl)) rfl ?_
              exact ⟨_, _, true, st.vars, st.arrays, rfl, below_setRow HWr4.out (by omega) _, own_lower (own_setRow9 HOV.out HRd.out) HBA.out.size, own_lower (own_setRow9 HOA.out HRd.out) HBA.out.size, HFIT.out.symm, fun _ => by rw [HFS.out]; exact ⟨rfl, rfl⟩⟩
end Go.Proofs.YthjjcmmonjajhaaGreatDoor
