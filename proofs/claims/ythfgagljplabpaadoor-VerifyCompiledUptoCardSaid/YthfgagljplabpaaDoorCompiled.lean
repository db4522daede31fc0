/- Code whose places can be given depths that fit is right: verify's loop never fails. Depths of what is compiled. What a resolved program's names are good for: each is found; each call fits. What one instruction takes and leaves. The parts of what is compiled are right where they stand. What was compiled is right: the plain law. VerifyCompiled's walk. VerifyCompiled, from what came in. -/
import Derived.Test.YthfgagljplabpaaDoorCompRep
import Derived.Test.YthfgagljplabpaaDoorVerifyRep
import Derived.Test.YthfgagljplabpaaDoorCompile
import Derived.Test.YthfgagljplabpaaDoorVerifyShown
import Derived.Test.YthfgagljplabpaaDoorTreeOpens
namespace Go.Proofs.YthfgagljplabpaaDoor
open Go.RowKit Go.Sort
set_option linter.unusedVariables false

def vI (i : VI) : V.VI := ⟨i.op, i.a, i.n⟩
def vF (f : VF) : V.VF := ⟨f.name, f.params, f.vars, f.arrays, f.l.map vI⟩
/-- An instruction is right at a place, where places have the depths g. -/
structure OkAt (fs : List V.VF) (f : V.VF) (n : Nat) (g : Nat → Int) (k : Nat) (i : V.VI) : Prop where
  oper : V.operandsB fs.length f i = true
  lo : 0 ≤ g k - V.takesV fs i
  hi : g k ≤ 1000000000
  tk : 0 ≤ V.takesV fs i
  lv : 0 ≤ V.lv (V.ix i.op) ∧ V.lv (V.ix i.op) ≤ 1
  next : i.op ≠ 18 → i.op ≠ 15 → k + 1 < n ∧ g (k + 1) = g k - V.takesV fs i + V.lv (V.ix i.op)
  jump : i.op = 15 ∨ i.op = 16 → 0 ≤ i.a ∧ i.a < n ∧ g i.a.toNat = g k - V.takesV fs i + V.lv (V.ix i.op)
/-- What is noted agrees with the depths. -/
def Noted (n : Nat) (g : Nat → Int) (st : V.VS) : Prop := (∀ k ∈ st.queue, k < n ∧ st.dep k = some (g k)) ∧ ∀ k d, st.dep k = some d → d = g k
theorem reach_ok9 {n : Nat} {g : Nat → Int} {st : V.VS} (h : Noted n g st) {p d : Int} (h0 : 0 ≤ p) (h1 : p < n) (hd : g p.toNat = d) : ∃ st', st.reach n p d = some st' ∧ Noted n g st' := by
  unfold V.VS.reach
  have hin : V.inB p 0 n = true := by unfold V.inB; rw [decide_eq_true h0, decide_eq_true h1]; rfl
  rw [if_pos hin]
  cases he : st.dep p.toNat with
  | some e =>
    have := h.2 _ _ he
    dsimp only
    rw [if_pos (by rw [this, hd])]
    exact ⟨st, rfl, h⟩
  | none =>
    refine ⟨_, rfl, ?_, ?_⟩
    · intro k hk
      dsimp only at hk ⊢
      rcases List.mem_append.1 hk with hk | hk
      · obtain ⟨q1, q2⟩ := h.1 k hk
        refine ⟨q1, ?_⟩
        by_cases e : k = p.toNat
        · rw [if_pos e, e, hd]
        · rw [if_neg e]; exact q2
      · rw [List.mem_singleton.1 hk]
        exact ⟨by omega, by rw [if_pos rfl, hd]⟩
    · intro k e' hk
      dsimp only at hk
      by_cases e : k = p.toNat
      · rw [if_pos e] at hk
        rw [e, hd]; exact (Option.some.inj hk).symm
      · rw [if_neg e] at hk; exact h.2 _ _ hk
theorem place_ok9 {fs : List V.VF} {f : V.VF} {g : Nat → Int} {st : V.VS} {k : Nat} (hk : OkAt fs f f.l.length g k (f.l.getD k default)) (h : Noted f.l.length g st) (hd : st.dep k = some (g k)) : ∃ st', V.placeB fs f st k = some st' ∧ Noted f.l.length g st' := by
  unfold V.placeB
  rw [if_pos hk.oper]
  have e1 : V.restV fs (f.l.getD k default) ((st.dep k).getD 0) = g k - V.takesV fs (f.l.getD k default) := by
    unfold V.restV
    rw [hd, Option.getD_some]
    have := hk.lo; have := hk.hi; have := hk.tk
    unfold wrap64; omega
  dsimp only
  rw [e1, if_neg (by have := hk.lo; omega)]
  have e2 : wrap64 (g k - V.takesV fs (f.l.getD k default) + V.lv (V.ix (f.l.getD k default).op)) = g k - V.takesV fs (f.l.getD k default) + V.lv (V.ix (f.l.getD k default).op) := by
    have := hk.lo; have := hk.hi; have := hk.tk; have := hk.lv
    unfold wrap64; omega
  rw [e2]
  by_cases h18 : (f.l.getD k default).op = 18
  · rw [if_pos h18]; exact ⟨st, rfl, h⟩
  · rw [if_neg h18]
    by_cases h15 : (f.l.getD k default).op = 15
    · rw [if_pos h15]
      obtain ⟨j1, j2, j3⟩ := hk.jump (.inl h15)
      exact reach_ok9 h j1 j2 j3
    · rw [if_neg h15]
      obtain ⟨n1, n2⟩ := hk.next h18 h15
      have hnx : ∀ {st : V.VS}, Noted f.l.length g st → ∃ st', st.reach f.l.length ((k : Int) + 1) (g k - V.takesV fs (f.l.getD k default) + V.lv (V.ix (f.l.getD k default).op)) = some st' ∧ Noted f.l.length g st' := fun h =>
        reach_ok9 h (by omega) (by omega) (by rw [show ((k : Int) + 1).toNat = k + 1 by omega]; exact n2)
      by_cases h16 : (f.l.getD k default).op = 16
      · rw [if_pos h16]
        obtain ⟨j1, j2, j3⟩ := hk.jump (.inr h16)
        obtain ⟨st1, q1, q2⟩ := reach_ok9 h j1 j2 j3
        rw [q1]
        exact hnx q2
      · rw [if_neg h16]
        exact hnx h
theorem loop_ok9 {fs : List V.VF} {f : V.VF} {g : Nat → Int} (hg : ∀ k, k < f.l.length → OkAt fs f f.l.length g k (f.l.getD k default)) : ∀ (m : Nat) (st : V.VS), Noted f.l.length g st → V.loopB fs f m st = true := by
  intro m
  induction m with
  | zero => intro st _; rfl
  | succ m ih =>
    intro st h
    unfold V.loopB
    cases hq : st.queue with
    | nil => rfl
    | cons k q =>
      dsimp only
      obtain ⟨h1, h2⟩ := h.1 k (by rw [hq]; exact List.mem_cons_self ..)
      have h' : Noted f.l.length g ⟨st.dep, q⟩ := ⟨fun j hj => h.1 j (by rw [hq]; exact List.mem_cons_of_mem _ hj), h.2⟩
      obtain ⟨st', e, q2⟩ := place_ok9 (st := ⟨st.dep, q⟩) (hg k h1) h' h2
      rw [e]
      exact ih st' q2
theorem right_ok9 {fs : List V.VF} {f : V.VF} {g : Nat → Int} (hh : V.headV f = true) (hn : 0 < f.l.length) (h0 : g 0 = 0) (hg : ∀ k, k < f.l.length → OkAt fs f f.l.length g k (f.l.getD k default)) : V.rightV fs f = true := by
  unfold V.rightV
  rw [hh, Bool.true_and]
  obtain ⟨st', e, h⟩ := reach_ok9 (n := f.l.length) (g := g) (st := V.startV) ⟨fun k hk => by simp [V.startV] at hk, fun k d hk => by simp [V.startV] at hk⟩ (p := 0) (d := 0) (by omega) (by omega) h0
  rw [e]
  exact loop_ok9 hg _ st' h

/- The depth ahead of each instruction of what is compiled. -/
mutual
def ET.dep : ET → Int → List Int
  | .mk _ _ _ l, d => ET.depL l d ++ [d + l.length]
def ET.depL : List ET → Int → List Int
  | [], _ => []
  | e :: r, d => ET.dep e d ++ ET.depL r (d + 1)
end
mutual
def ST.dep : ST → List Int
  | .mk o _ _ l b e => ET.depL l 0 ++ (if o = 7 ∨ o = 8 then [1] ++ ST.depL b ++ [0] ++ (if o = 7 then ST.depL e else []) else [(l.length : Int)])
def ST.depL : List ST → List Int
  | [] => []
  | s :: r => ST.dep s ++ ST.depL r
end
mutual
theorem ET.dep_len (all : List SC) (sc : SC) : ∀ (e : ET) (d : Int), (e.dep d).length = (e.code all sc).length
  | .mk o n s l, d => by simp only [ET.dep, ET.code, List.length_append, List.length_cons, List.length_nil]; rw [ET.depL_len all sc l d]
theorem ET.depL_len (all : List SC) (sc : SC) : ∀ (l : List ET) (d : Int), (ET.depL l d).length = (ET.codeL all sc l).length
  | [], _ => rfl
  | e :: r, d => by simp only [ET.depL, ET.codeL, List.length_append]; rw [ET.dep_len all sc e d, ET.depL_len all sc r (d + 1)]
end
mutual
theorem ST.dep_len (all : List SC) (sc : SC) : ∀ (s : ST) (at_ : Nat), (s.dep).length = (s.code all sc at_).length
  | .mk o n s l b e, at_ => by
    have h1 := ET.depL_len all sc l 0
    have h2 := fun k => ST.depL_len all sc b k
    have h3 := fun k => ST.depL_len all sc e k
    simp only [ST.dep, ST.code]
    by_cases h : o = 7 ∨ o = 8
    · rw [if_pos h, if_pos h]
      by_cases h7 : o = 7
      · rw [if_pos h7, if_pos h7]
        simp only [List.length_append, List.length_cons, List.length_nil]
        rw [h1, h2 (at_ + (ET.codeL all sc l).length + 1), h3 (at_ + (ET.codeL all sc l).length + 1 + (ST.codeL all sc b (at_ + (ET.codeL all sc l).length + 1)).length + 1)]
        omega
      · rw [if_neg h7, if_neg h7]
        simp only [List.length_append, List.length_cons, List.length_nil]
        rw [h1, h2 (at_ + (ET.codeL all sc l).length + 1)]
        omega
    · rw [if_neg h, if_neg h]
      simp only [List.length_append, List.length_cons, List.length_nil]
      rw [h1]
theorem ST.depL_len (all : List SC) (sc : SC) : ∀ (l : List ST) (at_ : Nat), (ST.depL l).length = (ST.codeL all sc l at_).length
  | [], _ => rfl
  | s :: r, at_ => by simp only [ST.depL, ST.codeL, List.length_append]; rw [ST.dep_len all sc s at_, ST.depL_len all sc r _]
end
mutual
theorem ET.dep_first : ∀ (e : ET) (d : Int) (x : List Int), (e.dep d ++ x).getD 0 0 = d
  | .mk o n s l, d, x => by simp only [ET.dep]; rw [List.append_assoc]; exact ET.depL_first l d x
theorem ET.depL_first : ∀ (l : List ET) (d : Int) (x : List Int), (ET.depL l d ++ ([d + l.length] ++ x)).getD 0 0 = d
  | [], d, x => by simp [ET.depL]
  | e :: r, d, x => by simp only [ET.depL]; rw [List.append_assoc]; exact ET.dep_first e d _
end
/- The depth of an expression's code is at least d, and no more than its length above. -/
mutual
theorem ET.dep_range : ∀ (e : ET) (d : Int) (x : Int), x ∈ e.dep d → d ≤ x ∧ x ≤ d + (e.dep d).length
  | .mk o n s l, d, x, h => by
    simp only [ET.dep] at h ⊢
    have hl := ET.depL_count l d
    rcases List.mem_append.1 h with h | h
    · have := ET.depL_range l d x h
      rw [List.length_append]; simp only [List.length_cons, List.length_nil]; omega
    · rw [List.mem_singleton.1 h, List.length_append]; simp only [List.length_cons, List.length_nil]; omega
theorem ET.depL_range : ∀ (l : List ET) (d : Int) (x : Int), x ∈ ET.depL l d → d ≤ x ∧ x ≤ d + (ET.depL l d).length
  | [], d, x, h => by simp [ET.depL] at h
  | e :: r, d, x, h => by
    simp only [ET.depL] at h ⊢
    have hc := ET.dep_pos e d
    rw [List.length_append]
    rcases List.mem_append.1 h with h | h
    · have := ET.dep_range e d x h; omega
    · have := ET.depL_range r (d + 1) x h; omega
theorem ET.dep_pos : ∀ (e : ET) (d : Int), 1 ≤ (e.dep d).length
  | .mk o n s l, d => by simp [ET.dep]
theorem ET.depL_count : ∀ (l : List ET) (d : Int), l.length ≤ (ET.depL l d).length
  | [], d => by simp [ET.depL]
  | e :: r, d => by
    simp only [ET.depL, List.length_cons, List.length_append]
    have := ET.dep_pos e d
    have := ET.depL_count r (d + 1)
    omega
end
/-- The depths g tell are those of a list, from a place on. -/
def Agree (g : Nat → Int) (at_ : Nat) (dl : List Int) : Prop := ∀ j, j < dl.length → g (at_ + j) = dl.getD j 0
theorem Agree.left {g : Nat → Int} {at_ : Nat} {a b : List Int} (h : Agree g at_ (a ++ b)) : Agree g at_ a := fun j hj => by
  rw [h j (by rw [List.length_append]; omega), List.getD_eq_getElem?_getD, List.getElem?_append_left hj, ← List.getD_eq_getElem?_getD]
theorem Agree.right {g : Nat → Int} {at_ : Nat} {a b : List Int} (h : Agree g at_ (a ++ b)) : Agree g (at_ + a.length) b := fun j hj => by
  have := h (a.length + j) (by rw [List.length_append]; omega)
  rw [← Nat.add_assoc] at this
  rw [this, List.getD_eq_getElem?_getD, List.getElem?_append_right (by omega), List.getD_eq_getElem?_getD]
  congr 3; omega
theorem Agree.join {g : Nat → Int} {at_ : Nat} {a b : List Int} (h : Agree g at_ a) (h' : Agree g (at_ + a.length) b) : Agree g at_ (a ++ b) := fun j hj => by
  rcases Nat.lt_or_ge j a.length with hl | hl
  · rw [h j hl, List.getD_eq_getElem?_getD, List.getD_eq_getElem?_getD, List.getElem?_append_left hl]
  · have := h' (j - a.length) (by rw [List.length_append] at hj; omega)
    rw [show at_ + a.length + (j - a.length) = at_ + j by omega] at this
    rw [this, List.getD_eq_getElem?_getD, List.getD_eq_getElem?_getD, List.getElem?_append_right hl]
theorem Agree.first {g : Nat → Int} {at_ : Nat} {dl : List Int} (h : Agree g at_ dl) (hp : 0 < dl.length) : g at_ = dl.getD 0 0 := h 0 hp
theorem Agree.cut {g : Nat → Int} {at_ : Nat} {a b : List Int} {x : Int} (h : Agree g at_ (a ++ b)) (hp : 0 < b.length) (hx : b.getD 0 0 = x) : Agree g at_ (a ++ [x]) := by
  refine h.left.join (fun j hj => ?_)
  obtain rfl : j = 0 := by simpa using hj
  rw [h.right 0 hp, hx]; rfl
/-- All instructions of a part are right where they stand. -/
def Seg (fs : List V.VF) (f : V.VF) (n : Nat) (g : Nat → Int) (at_ : Nat) (seg : List VI) : Prop := ∀ j, j < seg.length → OkAt fs f n g (at_ + j) (vI (seg.getD j default))
theorem Seg.nil {fs : List V.VF} {f : V.VF} {n : Nat} {g : Nat → Int} {at_ : Nat} : Seg fs f n g at_ [] := fun j hj => absurd hj (by simp)
theorem Seg.join {fs : List V.VF} {f : V.VF} {n : Nat} {g : Nat → Int} {at_ : Nat} {a b : List VI} (h : Seg fs f n g at_ a) (h' : Seg fs f n g (at_ + a.length) b) : Seg fs f n g at_ (a ++ b) := fun j hj => by
  rcases Nat.lt_or_ge j a.length with hl | hl
  · have := h j hl
    rwa [List.getD_eq_getElem?_getD, ← List.getElem?_append_left (l₂ := b) hl, ← List.getD_eq_getElem?_getD] at this
  · have := h' (j - a.length) (by rw [List.length_append] at hj; omega)
    rw [show at_ + a.length + (j - a.length) = at_ + j by omega] at this
    rwa [List.getD_eq_getElem?_getD, ← List.getElem?_append_right hl, ← List.getD_eq_getElem?_getD] at this
theorem Seg.one {fs : List V.VF} {f : V.VF} {n : Nat} {g : Nat → Int} {at_ : Nat} {i : VI} (h : OkAt fs f n g at_ (vI i)) : Seg fs f n g at_ [i] := fun j hj => by
  obtain rfl : j = 0 := by simpa using hj
  exact h
end Go.Proofs.YthfgagljplabpaaDoor
namespace Go.Proofs.YthfgagljplabpaaDoor
open Go.RowKit Go.Sort
set_option linter.unusedVariables false

def usesE (va ar : List ByteArray) (cl : ByteArray → Nat → Bool) (o : Int) (s : ByteArray) (k : Nat) : Bool := if o = 2 then memB va s else if o = 4 then memB ar s else if o = 5 then cl s k else true
def usesS (va ar : List ByteArray) (o : Int) (s : ByteArray) : Bool := if o = 1 ∨ o = 4 then memB va s else if o = 2 ∨ o = 3 then memB ar s else true
mutual
def ET.goodB (va ar : List ByteArray) (cl : ByteArray → Nat → Bool) : ET → Bool
  | .mk o n s l => exprB o n s l.length && (usesE va ar cl o s l.length && ET.goodL va ar cl l)
def ET.goodL (va ar : List ByteArray) (cl : ByteArray → Nat → Bool) : List ET → Bool
  | [] => true
  | e :: r => ET.goodB va ar cl e && ET.goodL va ar cl r
end
mutual
def ST.goodB (va ar : List ByteArray) (cl : ByteArray → Nat → Bool) : ST → Bool
  | .mk o n s l b e => stmtB o n s l.length b.length e.length && (usesS va ar o s && (ET.goodL va ar cl l && (ST.goodL va ar cl b && ST.goodL va ar cl e)))
def ST.goodL (va ar : List ByteArray) (cl : ByteArray → Nat → Bool) : List ST → Bool
  | [] => true
  | s :: r => ST.goodB va ar cl s && ST.goodL va ar cl r
end
/-- More has been found; what was wrong is wrong. -/
def FS.sub (st st' : FS) : Prop := (∀ s, memB st.vars s = true → memB st'.vars s = true) ∧ (∀ s, memB st.arrays s = true → memB st'.arrays s = true) ∧ (st'.wrong = false → st.wrong = false)
theorem FS.sub_refl (st : FS) : st.sub st := ⟨fun _ h => h, fun _ h => h, fun h => h⟩
theorem FS.sub.trans {a b c : FS} (h : a.sub b) (k : b.sub c) : a.sub c := ⟨fun s x => k.1 s (h.1 s x), fun s x => k.2.1 s (h.2.1 s x), fun x => h.2.2 (k.2.2 x)⟩
theorem memB_append (l r : List ByteArray) (s : ByteArray) : memB (l ++ r) s = (memB l s || memB r s) := by unfold memB; rw [List.any_append]
theorem memB_addL (l : List ByteArray) (s t : ByteArray) (h : memB l t = true) : memB (addL l s) t = true := by
  unfold addL
  split
  · exact h
  · rw [memB_append, h]; rfl
theorem memB_self (l : List ByteArray) (s : ByteArray) : memB (addL l s) s = true := by
  unfold addL
  split
  · next h => exact h
  · rw [memB_append]; simp [memB]
def ET.ownC (cl : ByteArray → Nat → Bool) (o : Int) (s : ByteArray) (k : Nat) (st : FS) : FS := if o = 2 then { st with vars := addL st.vars s } else if o = 4 then { st with arrays := addL st.arrays s } else if o = 5 then { st with wrong := st.wrong || !cl s k } else st
theorem ET.ownC_sub (cl : ByteArray → Nat → Bool) (o : Int) (s : ByteArray) (k : Nat) (st : FS) : st.sub (ET.ownC cl o s k st) := by
  unfold ET.ownC
  split
  · exact ⟨fun t h => memB_addL _ _ _ h, fun _ h => h, fun h => h⟩
  · split
    · exact ⟨fun _ h => h, fun t h => memB_addL _ _ _ h, fun h => h⟩
    · split
      · exact ⟨fun _ h => h, fun _ h => h, fun h => by simp only [Bool.or_eq_false_iff] at h; exact h.1⟩
      · exact FS.sub_refl _
theorem ST.own_sub (o : Int) (s : ByteArray) (st : FS) : st.sub (ST.own o s st) := by
  unfold ST.own
  split
  · exact ⟨fun _ h => h, fun t h => memB_addL _ _ _ h, fun h => h⟩
  · split
    · exact ⟨fun _ h => h, fun t h => memB_addL _ _ _ h, fun h => h⟩
    · split
      · exact ⟨fun t h => memB_addL _ _ _ h, fun _ h => h, fun h => h⟩
      · exact FS.sub_refl _
mutual
theorem ET.gather_sub (cl : ByteArray → Nat → Bool) : ∀ (e : ET) (st : FS), st.sub (e.gather cl st)
  | .mk o n s l, st => (ET.ownC_sub cl o s l.length st).trans (ET.gatherL_sub cl l _)
theorem ET.gatherL_sub (cl : ByteArray → Nat → Bool) : ∀ (l : List ET) (st : FS), st.sub (ET.gatherL cl l st)
  | [], st => FS.sub_refl _
  | e :: r, st => (ET.gather_sub cl e st).trans (ET.gatherL_sub cl r _)
end
mutual
theorem ST.gather_sub (cl : ByteArray → Nat → Bool) : ∀ (e : ST) (st : FS), st.sub (e.gather cl st)
  | .mk o n s l b e, st => (ST.own_sub o s st).trans ((ET.gatherL_sub cl l _).trans ((ST.gatherL_sub cl b _).trans (ST.gatherL_sub cl e _)))
theorem ST.gatherL_sub (cl : ByteArray → Nat → Bool) : ∀ (l : List ST) (st : FS), st.sub (ST.gatherL cl l st)
  | [], st => FS.sub_refl _
  | e :: r, st => (ST.gather_sub cl e st).trans (ST.gatherL_sub cl r _)
end
mutual
theorem ET.good_of (cl : ByteArray → Nat → Bool) : ∀ (e : ET) (st fin : FS) (d : Int), (e.gather cl st).sub fin → fin.wrong = false → (e.nodes d).all (·.1) = true → e.goodB fin.vars fin.arrays cl = true
  | .mk o n s l, st, fin, d, hs, hw, hn => by
    simp only [ET.nodes, List.all_cons, Bool.and_eq_true] at hn
    simp only [ET.goodB, Bool.and_eq_true]
    have h1 : (ET.gatherL cl l (ET.ownC cl o s l.length st)).sub fin := hs
    have h2 : (ET.ownC cl o s l.length st).sub fin := (ET.gatherL_sub cl l _).trans h1
    refine ⟨hn.1, ?_, ET.goodL_of cl l _ fin _ h1 hw hn.2⟩
    unfold usesE
    by_cases e2 : o = 2
    · rw [if_pos e2]; refine h2.1 s ?_; unfold ET.ownC; rw [if_pos e2]; exact memB_self _ _
    · rw [if_neg e2]
      by_cases e4 : o = 4
      · rw [if_pos e4]; refine h2.2.1 s ?_; unfold ET.ownC; rw [if_neg e2, if_pos e4]; exact memB_self _ _
      · rw [if_neg e4]
        by_cases e5 : o = 5
        · rw [if_pos e5]
          have := h2.2.2 hw
          unfold ET.ownC at this
          rw [if_neg e2, if_neg e4, if_pos e5] at this
          simp only [Bool.or_eq_false_iff, Bool.not_eq_false'] at this
          exact this.2
        · rw [if_neg e5]
theorem ET.goodL_of (cl : ByteArray → Nat → Bool) : ∀ (l : List ET) (st fin : FS) (d : Int), (ET.gatherL cl l st).sub fin → fin.wrong = false → (ET.nodesL l d).all (·.1) = true → ET.goodL fin.vars fin.arrays cl l = true
  | [], _, _, _, _, _, _ => rfl
  | e :: r, st, fin, d, hs, hw, hn => by
    simp only [ET.nodesL, List.all_append, Bool.and_eq_true] at hn
    simp only [ET.goodL, Bool.and_eq_true]
    have h1 : (ET.gatherL cl r (ET.gather cl e st)).sub fin := hs
    exact ⟨ET.good_of cl e st fin d ((ET.gatherL_sub cl r _).trans h1) hw hn.1, ET.goodL_of cl r _ fin d h1 hw hn.2⟩
end
mutual
theorem ST.good_of (cl : ByteArray → Nat → Bool) : ∀ (e : ST) (st fin : FS) (d : Int), (e.gather cl st).sub fin → fin.wrong = false → (e.nodes d).all (·.1) = true → e.goodB fin.vars fin.arrays cl = true
  | .mk o n s l b e, st, fin, d, hs, hw, hn => by
    simp only [ST.nodes, List.all_cons, List.all_append, Bool.and_eq_true] at hn
    simp only [ST.goodB, Bool.and_eq_true]
    have h3 : (ST.gatherL cl e (ST.gatherL cl b (ET.gatherL cl l (ST.own o s st)))).sub fin := hs
    have h2 := (ST.gatherL_sub cl e _).trans h3
    have h1 := (ST.gatherL_sub cl b _).trans h2
    have h0 := (ET.gatherL_sub cl l _).trans h1
    refine ⟨hn.1, ?_, ET.goodL_of cl l _ fin _ h1 hw hn.2.1, ST.goodL_of cl b _ fin _ h2 hw hn.2.2.1, ST.goodL_of cl e _ fin _ h3 hw hn.2.2.2⟩
    unfold usesS
    by_cases e1 : o = 1 ∨ o = 4
    · rw [if_pos e1]; refine h0.1 s ?_; unfold ST.own; rw [if_neg (by omega), if_neg (by omega), if_pos e1]; exact memB_self _ _
    · rw [if_neg e1]
      by_cases e2 : o = 2 ∨ o = 3
      · rw [if_pos e2]; refine h0.2.1 s ?_
        unfold ST.own
        rcases e2 with e2 | e2
        · rw [if_neg (by omega), if_pos e2]; exact memB_self _ _
        · rw [if_pos e2]; exact memB_self _ _
      · rw [if_neg e2]
theorem ST.goodL_of (cl : ByteArray → Nat → Bool) : ∀ (l : List ST) (st fin : FS) (d : Int), (ST.gatherL cl l st).sub fin → fin.wrong = false → (ST.nodesL l d).all (·.1) = true → ST.goodL fin.vars fin.arrays cl l = true
  | [], _, _, _, _, _, _ => rfl
  | e :: r, st, fin, d, hs, hw, hn => by
    simp only [ST.nodesL, List.all_append, Bool.and_eq_true] at hn
    simp only [ST.goodL, Bool.and_eq_true]
    have h1 : (ST.gatherL cl r (ST.gather cl e st)).sub fin := hs
    exact ⟨ST.good_of cl e st fin d ((ST.gatherL_sub cl r _).trans h1) hw hn.1, ST.goodL_of cl r _ fin d h1 hw hn.2⟩
end
/- Places of names. -/
theorem slot_in {l : List ByteArray} {s : ByteArray} (h : memB l s = true) : 0 ≤ slotI l s ∧ slotI l s < l.length := by
  unfold slotI
  rcases firstI_cases l.length (fun i => s.toList == (l.getD i ByteArray.empty).toList) with ⟨k, hk, _, _, e⟩ | ⟨hno, _⟩
  · rw [e]; omega
  · exfalso
    obtain ⟨x, hx, hs⟩ := List.any_eq_true.1 h
    obtain ⟨i, hi, rfl⟩ := List.mem_iff_getElem.1 hx
    have := hno i hi
    rw [List.getD_eq_getElem?_getD, List.getElem?_eq_getElem hi] at this
    simp only [Option.getD_some] at this
    rw [hs] at this; cases this
theorem PT.all_len (p : PT) : p.all.length = 1 + p.funcs.length := by unfold PT.all; simp; omega
theorem PT.scopes_len (p : PT) : p.scopes.length = p.all.length := by unfold PT.scopes; simp
theorem PT.code_len9 (p : PT) : p.code.length = p.all.length := by unfold PT.code; simp
theorem PT.scope_at (p : PT) {k : Nat} (h : k < p.all.length) : p.scopes.getD k default = FT.sc p.funcs (p.all.getD k default) := by
  unfold PT.scopes
  rw [List.getD_eq_getElem?_getD, List.getElem?_map, List.getElem?_eq_getElem h, List.getD_eq_getElem?_getD, List.getElem?_eq_getElem h]; rfl
theorem PT.code_at (p : PT) {k : Nat} (h : k < p.all.length) : p.code.getD k default = FT.vf p (p.all.getD k default) := by
  unfold PT.code
  rw [List.getD_eq_getElem?_getD, List.getElem?_map, List.getElem?_eq_getElem h, List.getD_eq_getElem?_getD, List.getElem?_eq_getElem h]; rfl
theorem PT.all_succ (p : PT) (i : Nat) : p.all.getD (i + 1) default = p.funcs.getD i default := by unfold PT.all; simp
theorem find_first {α : Type} {p : α → Bool} {z : α} : ∀ {l : List α} {k : Nat}, k < l.length → p (l.getD k z) = true → (∀ i, i < k → p (l.getD i z) = false) → l.find? p = some (l.getD k z)
  | [], k, hk, _, _ => absurd hk (by simp)
  | x :: l, 0, _, h, _ => by simp only [List.getD_cons_zero] at h ⊢; rw [List.find?_cons, h]
  | x :: l, k + 1, hk, h, hb => by
    have h0 := hb 0 (by omega)
    simp only [List.getD_cons_zero] at h0
    rw [List.find?_cons, h0]
    simp only [List.getD_cons_succ] at h ⊢
    exact find_first (by simpa using hk) h (fun i hi => by have := hb (i + 1) (by omega); simpa using this)
theorem find_call {p : PT} {s : ByteArray} {m : Nat} (h : callB p.funcs s m = true) : 1 ≤ findI p.scopes s ∧ findI p.scopes s < p.all.length ∧ (p.code.getD (findI p.scopes s).toNat default).params = m := by
  unfold callB at h
  have h : paramOf p.funcs s = some m := by simpa using h
  have hat : ∀ i, i < p.funcs.length → (p.scopes.getD (i + 1) default).name = (p.funcs.getD i default).name := fun i hi => by
    rw [p.scope_at (by rw [p.all_len]; omega), p.all_succ]; rfl
  unfold findI
  rcases firstI_cases p.scopes.length (fun i => decide (0 < i) && (p.scopes.getD i default).name.toList == s.toList) with ⟨k, hk, hp, hb, e⟩ | ⟨hno, _⟩
  · rw [e]
    simp only [Bool.and_eq_true, decide_eq_true_eq] at hp
    rw [p.scopes_len] at hk
    obtain ⟨i, rfl⟩ : ∃ i, k = i + 1 := ⟨k - 1, by omega⟩
    have hi : i < p.funcs.length := by rw [p.all_len] at hk; omega
    refine ⟨by omega, by omega, ?_⟩
    rw [show ((i + 1 : Nat) : Int).toNat = i + 1 by omega, p.code_at hk, p.all_succ]
    show ((p.funcs.getD i default).params.length : Int) = m
    have hf : p.funcs.find? (fun f => s.toList == f.name.toList) = some (p.funcs.getD i default) := find_first hi (by have := hp.2; rw [hat i hi] at this; rw [beq_iff_eq] at this ⊢; exact this.symm) (fun j hj => by
      have := hb (j + 1) (by omega)
      rw [hat j (by omega)] at this
      simp only [show decide (0 < j + 1) = true from decide_eq_true (by omega), Bool.true_and] at this
      rw [← this]
      by_cases e : s.toList = (p.funcs.getD j default).name.toList
      · rw [e]
      · rw [beq_eq_false_iff_ne.2 e, beq_eq_false_iff_ne.2 (fun h => e h.symm)])
    unfold paramOf at h
    rw [hf] at h
    simp only [Option.map_some, Option.some.injEq] at h
    omega
  · exfalso
    unfold paramOf at h
    obtain ⟨f, hf, _⟩ := Option.map_eq_some_iff.1 h
    have hm := List.mem_of_find?_eq_some hf
    have hp := List.find?_some hf
    obtain ⟨i, hi, rfl⟩ := List.mem_iff_getElem.1 hm
    have := hno (i + 1) (by rw [p.scopes_len, p.all_len]; omega)
    rw [hat i hi] at this
    simp only [show decide (0 < i + 1) = true from decide_eq_true (by omega), Bool.true_and] at this
    rw [List.getD_eq_getElem?_getD, List.getElem?_eq_getElem hi] at this
    simp only [Option.getD_some] at this
    rw [beq_iff_eq] at hp
    rw [hp] at this
    simp at this
/-- How many parts an expression has. -/
theorem expr_parts {o n : Int} {s : ByteArray} {k : Nat} (h : exprB o n s k = true) : 1 ≤ o ∧ o < 17 ∧ (o ≠ 5 → (k : Int) = (exprRow o.toNat).2.2.2.1) ∧ (o = 1 → n ≥ 0) := by
  unfold exprB at h
  obtain ⟨h1, h2⟩ := (Bool.and_eq_true _ _).mp h
  have h1 := of_decide_eq_true h1
  refine ⟨h1.1, h1.2, fun h5 => ?_, fun ho => ?_⟩
  · unfold exprFits fitsB at h2
    have h3 := ((Bool.and_eq_true _ _).mp h2).1
    unfold manyB at h3
    rcases (Bool.or_eq_true _ _).mp h3 with h | h
    · simpa using h
    · exfalso
      have h4 := of_decide_eq_true ((Bool.and_eq_true _ _).mp h).1
      have hc : o = 1 ∨ o = 2 ∨ o = 3 ∨ o = 4 ∨ o = 6 ∨ o = 7 ∨ o = 8 ∨ o = 9 ∨ o = 10 ∨ o = 11 ∨ o = 12 ∨ o = 13 ∨ o = 14 ∨ o = 15 ∨ o = 16 := by omega
      rcases hc with rfl | rfl | rfl | rfl | rfl | rfl | rfl | rfl | rfl | rfl | rfl | rfl | rfl | rfl | rfl <;> exact absurd h4 (by decide)
  · subst ho
    unfold exprFits fitsB at h2
    have h3 := ((Bool.and_eq_true _ _).mp ((Bool.and_eq_true _ _).mp h2).2).1
    have := of_decide_eq_true h3
    have e : (exprRow (1 : Int).toNat).2.1 = 0 := by decide
    omega
theorem stmt_parts {o n : Int} {s : ByteArray} {k b e : Nat} (h : stmtB o n s k b e = true) : 1 ≤ o ∧ o < 10 ∧ (k : Int) = (stmtRow o.toNat).2.2.2.1 ∧ (stmtRow o.toNat).2.1 ≤ n ∧ n ≤ (stmtRow o.toNat).2.2.1 ∧ ((stmtRow o.toNat).1 = true → nameB s = true) := by
  unfold stmtB at h
  obtain ⟨h1, h2⟩ := (Bool.and_eq_true _ _).mp h
  have h1 := of_decide_eq_true h1
  have h2 := ((Bool.and_eq_true _ _).mp h2).1
  unfold stmtFits fitsB at h2
  obtain ⟨h3, h4⟩ := (Bool.and_eq_true _ _).mp h2
  obtain ⟨h5, h6⟩ := (Bool.and_eq_true _ _).mp h4
  obtain ⟨h6, h7⟩ := (Bool.and_eq_true _ _).mp h6
  refine ⟨h1.1, h1.2, ?_, of_decide_eq_true h5, of_decide_eq_true h6, fun hn => ?_⟩
  · unfold manyB at h3
    rcases (Bool.or_eq_true _ _).mp h3 with h | h
    · simpa using h
    · exfalso
      have h4 := of_decide_eq_true ((Bool.and_eq_true _ _).mp h).1
      have hc : o = 1 ∨ o = 2 ∨ o = 3 ∨ o = 4 ∨ o = 5 ∨ o = 6 ∨ o = 7 ∨ o = 8 ∨ o = 9 := by omega
      rcases hc with rfl | rfl | rfl | rfl | rfl | rfl | rfl | rfl | rfl <;> exact absurd h4 (by decide)
  · rw [if_pos hn] at h7; exact h7
theorem fitsE_mk {i : V.VI} {c : Int} (hc : i.op = c) (hl : V.lv (V.ix c) = 1 ∧ c ≠ 15 ∧ c ≠ 16 ∧ c ≠ 18) : V.lv (V.ix i.op) = 1 ∧ i.op ≠ 15 ∧ i.op ≠ 16 ∧ i.op ≠ 18 := by rw [hc]; exact hl
theorem fitsS_mk {i : V.VI} {c : Int} (hc : i.op = c) (hl : V.lv (V.ix c) = 0 ∧ c ≠ 15 ∧ c ≠ 16) : V.lv (V.ix i.op) = 0 ∧ i.op ≠ 15 ∧ i.op ≠ 16 := by rw [hc]; exact hl
/-- An expression's own instruction takes its parts and leaves one. -/
theorem insE_fits {p : PT} {sc : SC} {f : V.VF} {o n : Int} {s : ByteArray} {m : Nat} (hx : exprB o n s m = true) (hu : usesE sc.vars sc.arrays (callB p.funcs) o s m = true) (hv : f.vars = sc.vars.length) (ha : f.arrays = sc.arrays.length) :
    V.operandsB (p.code.map vF).length f (vI (insE p.scopes sc o n s)) = true ∧ V.takesV (p.code.map vF) (vI (insE p.scopes sc o n s)) = m ∧ V.lv (V.ix (vI (insE p.scopes sc o n s)).op) = 1 ∧ (vI (insE p.scopes sc o n s)).op ≠ 15 ∧ (vI (insE p.scopes sc o n s)).op ≠ 16 ∧ (vI (insE p.scopes sc o n s)).op ≠ 18 := by
  obtain ⟨h1, h2, h3, _⟩ := expr_parts hx
  have hlen : (p.code.map vF).length = p.all.length := by rw [List.length_map, p.code_len9]
  have hin : ∀ {a : Int} {k : Int}, 0 ≤ a → a < k → V.inB a 0 k = true := fun h h' => by unfold V.inB; rw [decide_eq_true h, decide_eq_true h']; rfl
  by_cases e5 : o = 5
  · subst e5
    have hu : callB p.funcs s m = true := hu
    obtain ⟨c1, c2, c3⟩ := find_call hu
    have e : insE p.scopes sc 5 n s = ⟨17, findI p.scopes s, 0⟩ := rfl
    rw [e]
    refine ⟨?_, ?_, fitsE_mk (c := 17) rfl (by decide)⟩
    · show V.inB (findI p.scopes s) 1 ((p.code.map vF).length : Nat) = true
      rw [hlen]; unfold V.inB; rw [decide_eq_true c1, decide_eq_true c2]; rfl
    · show ((p.code.map vF).getD (findI p.scopes s).toNat default).params = m
      have hk : (findI p.scopes s).toNat < p.code.length := by rw [p.code_len9]; omega
      rw [List.getD_eq_getElem?_getD, List.getElem?_map, List.getElem?_eq_getElem hk]
      rw [List.getD_eq_getElem?_getD, List.getElem?_eq_getElem hk] at c3
      exact c3
  · have h3 := h3 e5
    have hc : o = 1 ∨ o = 2 ∨ o = 3 ∨ o = 4 ∨ o = 6 ∨ o = 7 ∨ o = 8 ∨ o = 9 ∨ o = 10 ∨ o = 11 ∨ o = 12 ∨ o = 13 ∨ o = 14 ∨ o = 15 ∨ o = 16 := by omega
    rcases hc with rfl | rfl | rfl | rfl | hc
    · exact ⟨rfl, h3.symm, fitsE_mk (c := 1) rfl (by decide)⟩
    · obtain ⟨q1, q2⟩ := slot_in (show memB sc.vars s = true from hu)
      exact ⟨hin q1 (by rw [hv]; exact q2), h3.symm, fitsE_mk (c := 2) rfl (by decide)⟩
    · exact ⟨rfl, h3.symm, fitsE_mk (c := 25) rfl (by decide)⟩
    · obtain ⟨q1, q2⟩ := slot_in (show memB sc.arrays s = true from hu)
      exact ⟨hin q1 (by rw [ha]; exact q2), h3.symm, fitsE_mk (c := 23) rfl (by decide)⟩
    · have e : insE p.scopes sc o n s = ⟨o - 2, 0, 0⟩ := by
        unfold insE
        rw [if_neg (by omega), if_neg (by omega), if_neg (by omega), if_neg (by omega), if_neg (by omega)]
        have : wrap64 (wrap64 (o - 6) + 4) = o - 2 := by unfold wrap64; omega
        rw [this]
      rw [e]
      rcases hc with rfl | rfl | rfl | rfl | rfl | rfl | rfl | rfl | rfl | rfl | rfl
      · exact ⟨rfl, h3.symm, fitsE_mk (c := 4) rfl (by decide)⟩
      · exact ⟨rfl, h3.symm, fitsE_mk (c := 5) rfl (by decide)⟩
      · exact ⟨rfl, h3.symm, fitsE_mk (c := 6) rfl (by decide)⟩
      · exact ⟨rfl, h3.symm, fitsE_mk (c := 7) rfl (by decide)⟩
      · exact ⟨rfl, h3.symm, fitsE_mk (c := 8) rfl (by decide)⟩
      · exact ⟨rfl, h3.symm, fitsE_mk (c := 9) rfl (by decide)⟩
      · exact ⟨rfl, h3.symm, fitsE_mk (c := 10) rfl (by decide)⟩
      · exact ⟨rfl, h3.symm, fitsE_mk (c := 11) rfl (by decide)⟩
      · exact ⟨rfl, h3.symm, fitsE_mk (c := 12) rfl (by decide)⟩
      · exact ⟨rfl, h3.symm, fitsE_mk (c := 13) rfl (by decide)⟩
      · exact ⟨rfl, h3.symm, fitsE_mk (c := 14) rfl (by decide)⟩
/-- The last instruction of a statement that is no branch takes its parts and leaves none. -/
theorem insS_fits {p : PT} {sc : SC} {f : V.VF} {o n : Int} {s : ByteArray} {m b e : Nat} (hx : stmtB o n s m b e = true) (hb : ¬ (o = 7 ∨ o = 8)) (hu : usesS sc.vars sc.arrays o s = true) (hv : f.vars = sc.vars.length) (ha : f.arrays = sc.arrays.length) :
    V.operandsB (p.code.map vF).length f (vI (insS sc o n s)) = true ∧ V.takesV (p.code.map vF) (vI (insS sc o n s)) = m ∧ V.lv (V.ix (vI (insS sc o n s)).op) = 0 ∧ (vI (insS sc o n s)).op ≠ 15 ∧ (vI (insS sc o n s)).op ≠ 16 := by
  obtain ⟨h1, h2, h3, h4, h5, _⟩ := stmt_parts hx
  have hin : ∀ {a : Int} {k : Int}, 0 ≤ a → a < k → V.inB a 0 k = true := fun h h' => by unfold V.inB; rw [decide_eq_true h, decide_eq_true h']; rfl
  have hc : o = 1 ∨ o = 2 ∨ o = 3 ∨ o = 4 ∨ o = 5 ∨ o = 6 ∨ o = 9 := by omega
  rcases hc with rfl | rfl | rfl | rfl | rfl | rfl | rfl
  · obtain ⟨q1, q2⟩ := slot_in (show memB sc.vars s = true from hu)
    exact ⟨hin q1 (by rw [hv]; exact q2), h3.symm, fitsS_mk (c := 3) rfl (by decide)⟩
  · obtain ⟨q1, q2⟩ := slot_in (show memB sc.arrays s = true from hu)
    exact ⟨hin q1 (by rw [ha]; exact q2), h3.symm, fitsS_mk (c := 24) rfl (by decide)⟩
  · obtain ⟨q1, q2⟩ := slot_in (show memB sc.arrays s = true from hu)
    have r1 : (stmtRow (3 : Int).toNat).2.1 = 1 := by decide
    have r2 : (stmtRow (3 : Int).toNat).2.2.1 = 4096 := by decide
    refine ⟨?_, h3.symm, fitsS_mk (c := 22) rfl (by decide)⟩
    show (V.inB (slotI sc.arrays s) 0 f.arrays && (decide (1 ≤ n) && decide (n ≤ 4096))) = true
    rw [hin q1 (by rw [ha]; exact q2), decide_eq_true (by omega), decide_eq_true (by omega)]; rfl
  · obtain ⟨q1, q2⟩ := slot_in (show memB sc.vars s = true from hu)
    refine ⟨?_, h3.symm, fitsS_mk (c := 21) rfl (by decide)⟩
    show (V.inB (slotI sc.vars s) 0 f.vars && (decide ((if secretB s then 1 else 0 : Int) = 0) || decide ((if secretB s then 1 else 0 : Int) = 1))) = true
    rw [hin q1 (by rw [hv]; exact q2)]
    cases secretB s <;> rfl
  · exact ⟨rfl, h3.symm, fitsS_mk (c := 19) rfl (by decide)⟩
  · exact ⟨rfl, h3.symm, fitsS_mk (c := 20) rfl (by decide)⟩
  · exact ⟨rfl, h3.symm, fitsS_mk (c := 18) rfl (by decide)⟩
end Go.Proofs.YthfgagljplabpaaDoor
namespace Go.Proofs.YthfgagljplabpaaDoor
open Go.RowKit Go.Sort
set_option linter.unusedVariables false

section
variable {p : PT} {sc : SC} {f : V.VF} {n : Nat} {g : Nat → Int}
mutual
theorem ET.seg (hv : f.vars = sc.vars.length) (hr : f.arrays = sc.arrays.length) : ∀ (e : ET) (d : Int) (at_ : Nat), e.goodB sc.vars sc.arrays (callB p.funcs) = true → 0 ≤ d → d + (e.dep d).length ≤ 1000000000 → Agree g at_ (e.dep d ++ [d + 1]) → at_ + (e.dep d).length < n → Seg (p.code.map vF) f n g at_ (e.code p.scopes sc)
  | .mk o nn s l, d, at_, hg, hd, hb, ha, hn => by
    simp only [ET.goodB, Bool.and_eq_true] at hg
    simp only [ET.dep] at hb ha hn
    simp only [ET.code]
    have hlen := ET.depL_len p.scopes sc l d
    have hcnt := ET.depL_count l d
    rw [List.length_append] at hb hn
    simp only [List.length_cons, List.length_nil] at hb hn
    refine Seg.join (ET.segL hv hr l d at_ hg.2.2 hd (by omega) ha.left (by omega)) (Seg.one ?_)
    obtain ⟨f1, f2, f3, f4, f5, f6⟩ := insE_fits (n := nn) hg.1 hg.2.1 hv hr
    have g1 : g (at_ + (ET.depL l d).length) = d + l.length := ha.left.right 0 (by simp)
    have g2 : g (at_ + (ET.depL l d).length + 1) = d + 1 := by
      have := ha.right 0 (by simp)
      rw [List.length_append] at this
      exact this
    rw [← hlen]
    exact ⟨f1, by rw [g1, f2]; omega, by rw [g1]; omega, by rw [f2]; omega, by rw [f3]; omega, fun _ _ => ⟨by omega, by rw [g2, g1, f2, f3]; omega⟩, fun h => by rcases h with h | h; exact absurd h f4; exact absurd h f5⟩
theorem ET.segL (hv : f.vars = sc.vars.length) (hr : f.arrays = sc.arrays.length) : ∀ (l : List ET) (d : Int) (at_ : Nat), ET.goodL sc.vars sc.arrays (callB p.funcs) l = true → 0 ≤ d → d + (ET.depL l d).length ≤ 1000000000 → Agree g at_ (ET.depL l d ++ [d + l.length]) → at_ + (ET.depL l d).length < n → Seg (p.code.map vF) f n g at_ (ET.codeL p.scopes sc l)
  | [], d, at_, _, _, _, _, _ => Seg.nil
  | e :: r, d, at_, hg, hd, hb, ha, hn => by
    simp only [ET.goodL, Bool.and_eq_true] at hg
    simp only [ET.depL] at hb ha hn
    simp only [ET.codeL]
    have hp := ET.dep_pos e d
    rw [List.length_append] at hb hn
    have ha' : Agree g at_ (e.dep d ++ (ET.depL r (d + 1) ++ [d + 1 + r.length])) := by
      rw [List.append_assoc, List.length_cons, show d + ((r.length + 1 : Nat) : Int) = d + 1 + r.length by omega] at ha
      exact ha
    have hf : (ET.depL r (d + 1) ++ [d + 1 + (r.length : Int)]).getD 0 0 = d + 1 := by
      have := ET.depL_first r (d + 1) []
      rwa [List.append_nil] at this
    refine Seg.join (ET.seg hv hr e d at_ hg.1 hd (by omega) (ha'.cut (by simp only [List.length_append, List.length_cons, List.length_nil]; omega) hf) (by omega)) ?_
    rw [← ET.dep_len p.scopes sc e d]
    exact ET.segL hv hr r (d + 1) _ hg.2 (by omega) (by omega) ha'.right (by omega)
end
theorem stmt_one {o nn : Int} {s : ByteArray} {k b e : Nat} (h : stmtB o nn s k b e = true) (ho : o = 7 ∨ o = 8) : k = 1 := by
  obtain ⟨_, _, h3, _⟩ := stmt_parts h
  rcases ho with rfl | rfl
  · have : (stmtRow (7 : Int).toNat).2.2.2.1 = 1 := by decide
    omega
  · have : (stmtRow (8 : Int).toNat).2.2.2.1 = 1 := by decide
    omega
theorem ST.dep_first {va ar : List ByteArray} {cl : ByteArray → Nat → Bool} : ∀ (s : ST) (x : List Int), s.goodB va ar cl = true → (s.dep ++ x).getD 0 0 = 0
  | .mk o nn s l b e, x, hg => by
    simp only [ST.goodB, Bool.and_eq_true] at hg
    simp only [ST.dep]
    by_cases h : o = 7 ∨ o = 8
    · have h1 := stmt_one hg.1 h
      rw [if_pos h]
      have := ET.depL_first l 0 (ST.depL b ++ [0] ++ (if o = 7 then ST.depL e else []) ++ x)
      rw [h1] at this
      simpa [List.append_assoc] using this
    · rw [if_neg h]
      have := ET.depL_first l 0 x
      simpa [List.append_assoc] using this
theorem ST.depL_first {va ar : List ByteArray} {cl : ByteArray → Nat → Bool} (l : List ST) (x : List Int) (hg : ST.goodL va ar cl l = true) : (ST.depL l ++ ([0] ++ x)).getD 0 0 = 0 := by
  cases l with
  | nil => simp [ST.depL]
  | cons s r =>
    simp only [ST.goodL, Bool.and_eq_true] at hg
    simp only [ST.depL]
    rw [List.append_assoc]
    exact ST.dep_first s _ hg.1
theorem zero_ok {fs : List V.VF} {k : Nat} {a : Int} (h1 : g k = 1) (h2 : k + 1 < n) (h3 : g (k + 1) = 0) (h4 : 0 ≤ a) (h5 : a < n) (h6 : g a.toNat = 0) : OkAt fs f n g k (vI ⟨16, a, 0⟩) := by
  have e1 : V.takesV fs (vI ⟨16, a, 0⟩) = 1 := rfl
  have e2 : V.lv (V.ix (vI ⟨16, a, 0⟩).op) = 0 := by show V.lv (V.ix 16) = 0; decide
  exact ⟨rfl, by rw [h1, e1]; omega, by rw [h1]; omega, by rw [e1]; omega, by rw [e2]; omega, fun _ _ => ⟨h2, by rw [h3, h1, e1, e2]; omega⟩, fun _ => ⟨h4, h5, by show g a.toNat = _; rw [h6, h1, e1, e2]; omega⟩⟩
theorem jump_ok {fs : List V.VF} {k : Nat} {a : Int} (h1 : g k = 0) (h4 : 0 ≤ a) (h5 : a < n) (h6 : g a.toNat = 0) : OkAt fs f n g k (vI ⟨15, a, 0⟩) := by
  have e1 : V.takesV fs (vI ⟨15, a, 0⟩) = 0 := rfl
  have e2 : V.lv (V.ix (vI ⟨15, a, 0⟩).op) = 0 := by show V.lv (V.ix 15) = 0; decide
  exact ⟨rfl, by rw [h1, e1]; omega, by rw [h1]; omega, by rw [e1]; omega, by rw [e2]; omega, fun _ h => absurd rfl h, fun _ => ⟨h4, h5, by show g a.toNat = _; rw [h6, h1, e1, e2]; omega⟩⟩
mutual
theorem ST.seg (hv : f.vars = sc.vars.length) (hr : f.arrays = sc.arrays.length) : ∀ (s : ST) (at_ : Nat), s.goodB sc.vars sc.arrays (callB p.funcs) = true → (s.dep).length ≤ 1000000000 → Agree g at_ (s.dep ++ [0]) → at_ + (s.dep).length < n → Seg (p.code.map vF) f n g at_ (s.code p.scopes sc at_)
  | .mk o nn s l b e, at_, hg, hb, ha, hn => by
    have hg0 := hg
    simp only [ST.goodB, Bool.and_eq_true] at hg
    obtain ⟨hg1, hg2, hg3, hg4, hg5⟩ := hg
    simp only [ST.dep] at hb ha hn
    have hlen := ET.depL_len p.scopes sc l 0
    have hcnt := ET.depL_count l 0
    by_cases h : o = 7 ∨ o = 8
    · have h1 := stmt_one hg1 h
      rw [if_pos h] at hb ha hn
      have hbl : (ST.codeL p.scopes sc b (at_ + (ET.codeL p.scopes sc l).length + 1)).length = (ST.depL b).length := (ST.depL_len p.scopes sc b _).symm
      have hel : ∀ q, (ST.codeL p.scopes sc e q).length = (ST.depL e).length := fun q => (ST.depL_len p.scopes sc e q).symm
      rw [ST.code_branch p.scopes sc o nn s l b e at_ h _ rfl _ _ rfl rfl]
      rw [← hlen] at hbl ⊢
      rw [hbl]
      by_cases h7 : o = 7
      · rw [if_pos h7] at hb ha hn ⊢
        simp only [List.length_append, List.length_cons, List.length_nil] at hb hn
        have ha' : Agree g at_ (ET.depL l 0 ++ ([1] ++ (ST.depL b ++ ([0] ++ (ST.depL e ++ [0]))))) := by simpa [List.append_assoc] using ha
        have h2 := ha'.right
        have h3 := h2.right
        have h4 := h3.right
        have h5 := h4.right
        simp only [List.length_cons, List.length_nil, Nat.zero_add] at h3 h4 h5
        have gP : g (at_ + (ET.depL l 0).length) = 1 := h2 0 (by simp)
        have gQ : g (at_ + (ET.depL l 0).length + 1) = 0 := (h3.first (by simp only [List.length_append, List.length_cons, List.length_nil]; omega)).trans (ST.depL_first b _ hg4)
        have gJ : g (at_ + (ET.depL l 0).length + 1 + (ST.depL b).length) = 0 := h4 0 (by simp)
        have gE : g (at_ + (ET.depL l 0).length + 1 + (ST.depL b).length + 1) = 0 := (h5.first (by simp only [List.length_append, List.length_cons, List.length_nil]; omega)).trans (by have := ST.depL_first e [] hg5; rwa [List.append_nil] at this)
        have gX : g (at_ + (ET.depL l 0).length + 1 + (ST.depL b).length + 1 + (ST.depL e).length) = 0 := h5.right 0 (by simp)
        rw [hel]
        simp only [List.append_assoc]
        refine Seg.join (ET.segL hv hr l 0 at_ hg3 (by omega) (by omega) (by rw [h1]; exact ha'.cut (by simp only [List.length_append, List.length_cons, List.length_nil]; omega) rfl) (by omega)) ?_
        rw [← hlen]
        refine Seg.join (Seg.one (zero_ok gP (by omega) gQ (by omega) (by omega) (by rw [Int.toNat_natCast]; exact gE))) ?_
        simp only [List.length_cons, List.length_nil, Nat.zero_add]
        refine Seg.join (ST.segL hv hr b _ hg4 (by omega) (h3.cut (by simp only [List.length_append, List.length_cons, List.length_nil]; omega) rfl) (by omega)) ?_
        rw [hbl]
        refine Seg.join (Seg.one (jump_ok gJ (by omega) (by omega) (by rw [Int.toNat_natCast]; exact gX))) ?_
        simp only [List.length_cons, List.length_nil, Nat.zero_add]
        exact ST.segL hv hr e _ hg5 (by omega) h5 (by omega)
      · rw [if_neg h7] at hb ha hn ⊢
        simp only [List.length_append, List.length_cons, List.length_nil] at hb hn
        have ha' : Agree g at_ (ET.depL l 0 ++ ([1] ++ (ST.depL b ++ ([0] ++ [0])))) := by simpa [List.append_assoc] using ha
        have h2 := ha'.right
        have h3 := h2.right
        have h4 := h3.right
        simp only [List.length_cons, List.length_nil, Nat.zero_add] at h3 h4
        have gP : g (at_ + (ET.depL l 0).length) = 1 := h2 0 (by simp)
        have gQ : g (at_ + (ET.depL l 0).length + 1) = 0 := (h3.first (by simp only [List.length_append, List.length_cons, List.length_nil]; omega)).trans (ST.depL_first b _ hg4)
        have gJ : g (at_ + (ET.depL l 0).length + 1 + (ST.depL b).length) = 0 := h4 0 (by simp)
        have gX : g (at_ + (ET.depL l 0).length + 1 + (ST.depL b).length + 1) = 0 := h4.right 0 (by simp)
        have g0 : g at_ = 0 := (ha'.first (by simp only [List.length_append, List.length_cons, List.length_nil]; omega)).trans (by have := ET.depL_first l 0 (ST.depL b ++ ([0] ++ [0])); rw [h1] at this; simpa using this)
        simp only [List.append_assoc]
        refine Seg.join (ET.segL hv hr l 0 at_ hg3 (by omega) (by omega) (by rw [h1]; exact ha'.cut (by simp only [List.length_append, List.length_cons, List.length_nil]; omega) rfl) (by omega)) ?_
        rw [← hlen]
        refine Seg.join (Seg.one (zero_ok gP (by omega) gQ (by omega) (by omega) (by rw [Int.toNat_natCast]; exact gX))) ?_
        simp only [List.length_cons, List.length_nil, Nat.zero_add]
        refine Seg.join (ST.segL hv hr b _ hg4 (by omega) (h3.cut (by simp only [List.length_append, List.length_cons, List.length_nil]; omega) rfl) (by omega)) ?_
        rw [hbl]
        exact Seg.one (jump_ok gJ (by omega) (by omega) (by rw [Int.toNat_natCast]; exact g0))
    · rw [if_neg h] at hb ha hn
      rw [List.length_append] at hb hn
      simp only [List.length_cons, List.length_nil] at hb hn
      rw [ST.code_simple p.scopes sc o nn s l b e at_ h]
      obtain ⟨f1, f2, f3, f4, f5⟩ := insS_fits (n := nn) hg1 h hg2 hv hr
      have g1 : g (at_ + (ET.depL l 0).length) = l.length := ha.left.right 0 (by simp)
      have g2 : g (at_ + (ET.depL l 0).length + 1) = 0 := by
        have := ha.right 0 (by simp)
        rw [List.length_append] at this
        exact this
      refine Seg.join (ET.segL hv hr l 0 at_ hg3 (by omega) (by omega) (by rw [Int.zero_add]; exact ha.left) (by omega)) (Seg.one ?_)
      rw [← hlen]
      exact ⟨f1, by rw [g1, f2]; omega, by rw [g1]; omega, by rw [f2]; omega, by rw [f3]; omega, fun _ _ => ⟨by omega, by rw [g2, g1, f2, f3]; omega⟩, fun h => by rcases h with h | h; exact absurd h f4; exact absurd h f5⟩
theorem ST.segL (hv : f.vars = sc.vars.length) (hr : f.arrays = sc.arrays.length) : ∀ (l : List ST) (at_ : Nat), ST.goodL sc.vars sc.arrays (callB p.funcs) l = true → (ST.depL l).length ≤ 1000000000 → Agree g at_ (ST.depL l ++ [0]) → at_ + (ST.depL l).length < n → Seg (p.code.map vF) f n g at_ (ST.codeL p.scopes sc l at_)
  | [], at_, _, _, _, _ => Seg.nil
  | s :: r, at_, hg, hb, ha, hn => by
    simp only [ST.goodL, Bool.and_eq_true] at hg
    simp only [ST.depL] at hb ha hn
    simp only [ST.codeL]
    rw [List.length_append] at hb hn
    rw [List.append_assoc] at ha
    refine Seg.join (ST.seg hv hr s at_ hg.1 (by omega) (ha.cut (by simp only [List.length_append, List.length_cons, List.length_nil]; omega) (by have := ST.depL_first r [] hg.2; rwa [List.append_nil] at this)) (by omega)) ?_
    rw [← ST.dep_len p.scopes sc s at_]
    exact ST.segL hv hr r _ hg.2 (by omega) ha.right (by omega)
end
end
/-- Parameters that are not twice are as many variables. -/
theorem params_fit : ∀ (l : List ByteArray) (st : FS), (l.foldl FS.param st).wrong = false → st.vars.length + l.length ≤ (l.foldl FS.param st).vars.length ∧ st.wrong = false
  | [], st, h => ⟨by simp, h⟩
  | s :: r, st, h => by
    obtain ⟨h1, h2⟩ := params_fit r (FS.param st s) h
    have h3 : memB st.vars s = false ∧ st.wrong = false := by
      have : (memB st.vars s || st.wrong) = false := h2
      simpa using this
    have h4 : (FS.param st s).vars.length = st.vars.length + 1 := by
      show (addL st.vars s).length = _
      unfold addL
      rw [h3.1]
      simp
    refine ⟨?_, h3.2⟩
    have : ((s :: r).foldl FS.param st) = r.foldl FS.param (FS.param st s) := rfl
    rw [this, List.length_cons]; omega
theorem gather_len (cl : ByteArray → Nat → Bool) {st st' : FS} (h : ∃ l : List ST, st' = ST.gatherL cl l st) : st.sub st' := by
  obtain ⟨l, rfl⟩ := h
  exact ST.gatherL_sub cl l st
end Go.Proofs.YthfgagljplabpaaDoor
namespace Go.Proofs.YthfgagljplabpaaDoor
open Go.RowKit Go.Sort
set_option linter.unusedVariables false

theorem addL_ge (l : List ByteArray) (s : ByteArray) : l.length ≤ (addL l s).length := by
  unfold addL; split
  · omega
  · simp
mutual
theorem ET.gather_vl (cl : ByteArray → Nat → Bool) : ∀ (e : ET) (st : FS), st.vars.length ≤ (e.gather cl st).vars.length
  | .mk o n s l, st => by
    simp only [ET.gather]
    refine Nat.le_trans ?_ (ET.gatherL_vl cl l _)
    split
    · exact addL_ge _ _
    · split
      · exact Nat.le_refl _
      · split <;> exact Nat.le_refl _
theorem ET.gatherL_vl (cl : ByteArray → Nat → Bool) : ∀ (l : List ET) (st : FS), st.vars.length ≤ (ET.gatherL cl l st).vars.length
  | [], st => Nat.le_refl _
  | e :: r, st => Nat.le_trans (ET.gather_vl cl e st) (ET.gatherL_vl cl r _)
end
mutual
theorem ST.gather_vl (cl : ByteArray → Nat → Bool) : ∀ (e : ST) (st : FS), st.vars.length ≤ (e.gather cl st).vars.length
  | .mk o n s l b e, st => by
    simp only [ST.gather]
    refine Nat.le_trans ?_ (Nat.le_trans (ET.gatherL_vl cl l _) (Nat.le_trans (ST.gatherL_vl cl b _) (ST.gatherL_vl cl e _)))
    unfold ST.own
    split
    · exact Nat.le_refl _
    · split
      · exact Nat.le_refl _
      · split
        · exact addL_ge _ _
        · exact Nat.le_refl _
theorem ST.gatherL_vl (cl : ByteArray → Nat → Bool) : ∀ (l : List ST) (st : FS), st.vars.length ≤ (ST.gatherL cl l st).vars.length
  | [], st => Nat.le_refl _
  | e :: r, st => Nat.le_trans (ST.gather_vl cl e st) (ST.gatherL_vl cl r _)
end
theorem PT.resolve_parts {p : PT} (h : p.resolve = 0) : p.right = 0 ∧ dupB p.funcs = false ∧ ∀ f ∈ p.all, (f.found p.funcs).fits = true ∧ (f.found p.funcs).full = false := by
  have h0 : p.right = 0 := by
    by_cases h0 : p.right = 0
    · exact h0
    · unfold PT.resolve at h; rw [if_neg h0] at h; exact absurd h h0
  unfold PT.resolve at h
  rw [if_pos h0] at h
  cases hd : dupB p.funcs with
  | true => rw [hd, if_pos rfl] at h; cases h
  | false =>
    rw [hd, if_neg (by decide)] at h
    cases hf : p.all.any (fun f => !(f.found p.funcs).fits) with
    | true => rw [hf, if_pos rfl] at h; cases h
    | false =>
      rw [hf, if_neg (by decide)] at h
      cases hu : p.all.any (fun f => (f.found p.funcs).full) with
      | true => rw [hu, if_pos rfl] at h; cases h
      | false =>
        refine ⟨h0, rfl, fun f hm => ⟨?_, ?_⟩⟩
        · have := List.any_eq_false.1 hf f hm
          simpa using this
        · have := List.any_eq_false.1 hu f hm
          simpa using this
theorem FT.fits_parts {st : FS} (h : st.fits = true) : st.wrong = false := by
  unfold FS.fits at h
  have := ((Bool.and_eq_true _ _).mp h).1
  simpa using this
theorem PT.bodies_all {p : PT} (h : p.nodes.all (·.1) = true) : ∀ f ∈ p.all, (ST.nodesL f.body 1).all (·.1) = true := by
  unfold PT.nodes at h
  rw [List.all_append, Bool.and_eq_true] at h
  intro f hf
  unfold PT.all at hf
  rcases List.mem_cons.1 hf with rfl | hf
  · exact h.2
  · rw [List.all_eq_true]
    intro x hx
    exact List.all_eq_true.1 h.1 x (List.mem_flatMap.2 ⟨f, hf, hx⟩)
theorem getD_map9 {α β : Type} (l : List α) (h : α → β) (z : α) (y : β) {k : Nat} (hk : k < l.length) : (l.map h).getD k y = h (l.getD k z) := by
  rw [List.getD_eq_getElem?_getD, List.getElem?_map, List.getElem?_eq_getElem hk, List.getD_eq_getElem?_getD, List.getElem?_eq_getElem hk]; rfl
theorem fn_right {p : PT} (h0 : p.resolve = 0) (hN : p.nodes.length ≤ 2000000) {f : FT} (hf : f ∈ p.all) : V.rightV (p.code.map vF) (vF (FT.vf p f)) = true := by
  obtain ⟨hr, _, hall⟩ := PT.resolve_parts h0
  obtain ⟨hfit, hfull⟩ := hall f hf
  obtain ⟨_, hnodes, _⟩ := PT.right0 hr
  obtain ⟨_, hok⟩ := PT.all_ok hr hN
  have hk := hok f hf
  have hw := FT.fits_parts hfit
  have hgood : ST.goodL (f.found p.funcs).vars (f.found p.funcs).arrays (callB p.funcs) f.body = true := ST.goodL_of (callB p.funcs) f.body _ (f.found p.funcs) 1 (FS.sub_refl _) hw (PT.bodies_all hnodes f hf)
  have hpw : (f.params.foldl FS.param FS.init).wrong = false := (ST.gatherL_sub (callB p.funcs) f.body (f.params.foldl FS.param FS.init)).2.2 hw
  have hpl := (params_fit f.params FS.init hpw).1
  have hvl := ST.gatherL_vl (callB p.funcs) f.body (f.params.foldl FS.param FS.init)
  have hvars : f.params.length ≤ (f.found p.funcs).vars.length := by
    have : (f.found p.funcs) = ST.gatherL (callB p.funcs) f.body (f.params.foldl FS.param FS.init) := rfl
    rw [this]
    have h1 : FS.init.vars.length = 0 := rfl
    omega
  unfold FS.full at hfull
  simp only [Bool.or_eq_false_iff, decide_eq_false_iff_not] at hfull
  have hcl := FT.code_len p hk
  obtain ⟨L, hL⟩ : ∃ L, ST.codeL p.scopes (FT.sc p.funcs f) f.body 0 = L := ⟨_, rfl⟩
  have hdl : (ST.depL f.body).length = L.length := by rw [← hL]; exact ST.depL_len p.scopes (FT.sc p.funcs f) f.body 0
  have hcode : f.code p = L ++ [⟨1, 0, 0⟩] ++ [⟨18, 0, 0⟩] := by unfold FT.code; rw [hL]
  rw [hL] at hcl
  have hn : (vF (FT.vf p f)).l.length = L.length + 2 := by
    show ((f.code p).map vI).length = _
    rw [hcode]; simp
  let g : Nat → Int := fun k => (ST.depL f.body ++ ([0] ++ [1])).getD k 0
  have hag : Agree g 0 (ST.depL f.body ++ ([0] ++ [1])) := fun j hj => by show (_ : List Int).getD (0 + j) 0 = _; rw [Nat.zero_add]
  have gL : g L.length = 0 := by have := hag.right 0 (by simp); rw [hdl, Nat.zero_add] at this; exact this
  have gM : g (L.length + 1) = 1 := by
    have := hag.right.right 0 (by simp)
    rw [hdl, Nat.zero_add] at this; exact this
  have hseg : Seg (p.code.map vF) (vF (FT.vf p f)) (L.length + 2) g 0 (L ++ ([⟨1, 0, 0⟩] ++ [⟨18, 0, 0⟩])) := by
    refine Seg.join ?_ ?_
    · rw [← hL]
      exact ST.segL (sc := FT.sc p.funcs f) (f := vF (FT.vf p f)) rfl rfl f.body 0 hgood (by rw [hdl]; omega) (hag.cut (by simp) rfl) (by rw [hdl, ← hL]; omega)
    · rw [Nat.zero_add]
      refine Seg.join (Seg.one ?_) (Seg.one ?_)
      · have e1 : V.takesV (p.code.map vF) (vI ⟨1, 0, 0⟩) = 0 := rfl
        have e2 : V.lv (V.ix (vI ⟨1, 0, 0⟩).op) = 1 := by decide
        exact ⟨rfl, by rw [gL, e1]; omega, by rw [gL]; omega, by rw [e1]; omega, by rw [e2]; omega, fun _ _ => ⟨by omega, by rw [gM, gL, e1, e2]; omega⟩, fun h => by rcases h with h | h <;> exact absurd h (by decide)⟩
      · have e1 : V.takesV (p.code.map vF) (vI ⟨18, 0, 0⟩) = 1 := rfl
        have e2 : V.lv (V.ix (vI ⟨18, 0, 0⟩).op) = 0 := by decide
        simp only [List.length_cons, List.length_nil, Nat.zero_add]
        exact ⟨rfl, by rw [gM, e1]; omega, by rw [gM]; omega, by rw [e1]; omega, by rw [e2]; omega, fun h => absurd rfl h, fun h => by rcases h with h | h <;> exact absurd h (by decide)⟩
  refine right_ok9 (g := g) ?_ (by rw [hn]; omega) ?_ ?_
  · show (V.inB (f.params.length : Int) 0 9 && (decide ((f.params.length : Int) ≤ ((f.found p.funcs).vars.length : Int)) && (V.inB ((f.found p.funcs).vars.length : Int) 0 65 && V.inB ((f.found p.funcs).arrays.length : Int) 0 65))) = true
    have := hk.few
    unfold V.inB
    simp only [Bool.and_eq_true, decide_eq_true_eq]
    omega
  · have := hag.first (by simp)
    rw [this]
    have := ST.depL_first f.body [1] hgood
    exact this
  · intro k hk'
    rw [hn] at hk' ⊢
    have hl : (L ++ ([(⟨1, 0, 0⟩ : VI)] ++ [(⟨18, 0, 0⟩ : VI)])).length = L.length + 2 := by simp
    have := hseg k (by rw [hl]; exact hk')
    rw [Nat.zero_add] at this
    have e : (vF (FT.vf p f)).l.getD k default = vI ((L ++ ([(⟨1, 0, 0⟩ : VI)] ++ [(⟨18, 0, 0⟩ : VI)])).getD k default) := by
      show ((f.code p).map vI).getD k default = _
      rw [hcode, List.append_assoc]
      exact getD_map9 _ _ _ _ (by rw [hl]; exact hk')
    rw [e]; exact this
/-- What was compiled is right. -/
theorem code_right {p : PT} (h0 : p.resolve = 0) (hN : p.nodes.length ≤ 2000000) : V.codeV (p.code.map vF) = true := by
  obtain ⟨hr, _, _⟩ := PT.resolve_parts h0
  obtain ⟨hl, _⟩ := PT.all_ok hr hN
  have hlen : (p.code.map vF).length = p.all.length := by rw [List.length_map, p.code_len9]
  have h1 := p.all_len
  unfold V.codeV
  rw [hlen]
  have e1 : V.inB (p.all.length : Int) 1 34 = true := by
    unfold V.inB
    simp only [Bool.and_eq_true, decide_eq_true_eq]
    omega
  have e2 : ((p.code.map vF).getD 0 default).params = 0 := by
    rw [getD_map9 p.code vF default default (by rw [p.code_len9]; omega), p.code_at (by omega)]
    rfl
  have e3 : (p.code.map vF).any (fun f => !V.rightV (p.code.map vF) f) = false := by
    rw [List.any_eq_false]
    intro f hf
    obtain ⟨f', hf', rfl⟩ := List.mem_map.1 hf
    unfold PT.code at hf'
    obtain ⟨f'', hf'', rfl⟩ := List.mem_map.1 hf'
    rw [fn_right h0 hN hf'']; decide
  rw [e1, e2, e3]; rfl
end Go.Proofs.YthfgagljplabpaaDoor
namespace Go.Proofs.YthfgagljplabpaaDoor
open Go.RowKit Go.Sort
set_option linter.unusedVariables false

theorem isl_conv {w : World} {v : Value} {l : List VI} (h : ISl w v l) : V.ISl w v (l.map vI) := by
  cases h with
  | mk a b off cap l ha hc hm hs hcell =>
    have e : ∀ i, i < l.length → (l.map vI).getD i default = vI (l.getD i default) := fun i hi => getD_map9 l vI default default hi
    have key := V.ISl.mk (w := w) a b off cap (l.map vI) (by rw [List.length_map]; exact ha) (by rw [List.length_map]; exact hc) hm (by rw [List.length_map]; exact hs) (fun i hi => by
      rw [List.length_map] at hi
      rw [e i hi]
      exact hcell i hi)
    rwa [List.length_map] at key
theorem vsl_conv {w : World} {v : Value} {l : List VF} (h : VSl w v l) : V.VSl w v (l.map vF) := by
  cases h with
  | mk a b off cap l f ha hc hm hcell h1 =>
    have e : ∀ i, i < l.length → (l.map vF).getD i default = vF (l.getD i default) := fun i hi => getD_map9 l vF default default hi
    have key := V.VSl.mk (w := w) a b off cap (l.map vF) f (by rw [List.length_map]; exact ha) (by rw [List.length_map]; exact hc) hm (fun i hi => by
      rw [List.length_map] at hi
      rw [e i hi]
      exact hcell i hi) (fun i hi => by
      rw [List.length_map] at hi
      rw [e i hi]
      exact isl_conv (h1 i hi))
    rwa [List.length_map] at key

set_option maxHeartbeats 8000000 in
set_option maxRecDepth 1000000 in
theorem vc_core (a1 a2 : Option Addr) (n1 n2 k1 k2 : Nat) (p : PT) (mb mn : Nat) (w : World) (ht : Tab w) (htv : V.Tab w) (hm : SmpAt w mb mn) (hp : PR w (.slice a1 n1 k1) (.slice a2 n2 k2) p) (hN : p.nodes.length ≤ 2000000) :
    Calls Tryd.prog 6 #[.agg #[.slice a1 n1 k1, .slice a2 n2 k2]] w fun e w' => e = .returned (.bool true) ∧ Below w.heap.size w w' := by
  obtain ⟨r, hr⟩ : ∃ r, p.resolve = r := ⟨_, rfl⟩
  have HT := Lib.hid ht
  have HTV := Lib.hid htv
  have HSM := Lib.hid hm
  have HP := Lib.hid hp
  have HN := Lib.hid hN
  have HR := Lib.hid hr
  clear ht htv hm hp hN hr
  have HB0 := hb_start w
  have HBA : Hid (Below w.heap.size w (w.alloc (.cells #[.slice a1 n1 k1, .slice a2 n2 k2] 41))) := hb_alloc HB0 _
  have HXA : Hid ((w.alloc (.cells #[.slice a1 n1 k1, .slice a2 n2 k2] 41)).heap[w.heap.size]? = some (.cells #[.slice a1 n1 k1, .slice a2 n2 k2] 41 (0, 0))) := heap_alloc_new _ _
  have hcase : r = 0 ∨ ((r == 0) = false ∧ (r != 0) = true ∧ r ≠ 0) := by
    by_cases h : r = 0
    · exact .inl h
    · exact .inr ⟨by simpa using h, by simpa using h, h⟩
  rcases hcase with rfl | ⟨hr1, hr2, hr3⟩
  · go_enter Tryd.func6, Tryd.ntmps6
    go_wp2_with fail
    refine (V.shown_r _ (HTV.out.below HBA.out)).mono ?_
    rintro e w1 ⟨rfl, hb⟩
    have HB1 : Hid (Below w.heap.size w w1) := hb_step HBA hb
    have HX1 := Lib.hid ((hb.block _ (lt_of_heap HXA.out)).trans HXA.out)
    have c0 : w1.cell? ⟨w.heap.size, 0, none⟩ = some (.slice a1 n1 k1) := cell_of_heap HX1.out 0
    have c1 : w1.cell? ⟨w.heap.size, 1, none⟩ = some (.slice a2 n2 k2) := cell_of_heap HX1.out 1
    clear hb
    go_wp2_with fail
    refine (compile_r a1 a2 n1 n2 k1 k2 p mb mn _ (Tab.at HT HB1) (HSM.out.stay HB1.out) (HP.out.stay HB1.out) HN.out _ HR.out).mono ?_
    rintro e w2 ⟨v, rfl, hb, hv⟩
    have HB2 : Hid (Below w.heap.size w w2) := hb_step HB1 hb
    have hv2 := vsl_conv (show VSl w2 v p.code from hv)
    have hcr := code_right HR.out HN.out
    obtain ⟨va, vc, rfl⟩ := hv2.shape
    generalize p.code.map vF = fs at hv2 hcr
    generalize fs.length = fl at hv2
    have HCR := Lib.hid hcr
    clear hcr hv
    have HV2 := Lib.hid (hv2.stay ((Below.refl _ _).alloc (Nat.le_refl _) (.cells #[.slice va fl vc] 30)))
    have HBX : Hid (Below w.heap.size w (w2.alloc (.cells #[.slice va fl vc] 30))) := hb_alloc HB2 _
    clear hb hv2 c0 c1
    go_wp2_with fail
    refine (V.code_r fs _ _ _ _ (HTV.out.below HBX.out) HV2.out _ HCR.out).mono ?_
    rintro e w3 ⟨rfl, hb⟩
    have HB3 : Hid (Below w.heap.size w w3) := hb_step HBX hb
    clear hb
    go_wp2_with fail
    go_ret
    exact ⟨rfl, HB3.out⟩
  · go_enter Tryd.func6, Tryd.ntmps6
    go_wp2_with fail
    refine (V.shown_r _ (HTV.out.below HBA.out)).mono ?_
    rintro e w1 ⟨rfl, hb⟩
    have HB1 : Hid (Below w.heap.size w w1) := hb_step HBA hb
    have HX1 := Lib.hid ((hb.block _ (lt_of_heap HXA.out)).trans HXA.out)
    have c0 : w1.cell? ⟨w.heap.size, 0, none⟩ = some (.slice a1 n1 k1) := cell_of_heap HX1.out 0
    have c1 : w1.cell? ⟨w.heap.size, 1, none⟩ = some (.slice a2 n2 k2) := cell_of_heap HX1.out 1
    clear hb
    go_wp2_with fail
    refine (compile_r a1 a2 n1 n2 k1 k2 p mb mn _ (Tab.at HT HB1) (HSM.out.stay HB1.out) (HP.out.stay HB1.out) HN.out _ HR.out).mono ?_
    rintro e w2 ⟨v, rfl, hb, hv⟩
    have HB2 : Hid (Below w.heap.size w w2) := hb_step HB1 hb
    have hv2 := vsl_conv (show VSl w2 v [] by rw [if_neg hr3] at hv; exact hv)
    have hcr : V.codeV (([] : List VF).map vF) = false := rfl
    obtain ⟨va, vc, rfl⟩ := hv2.shape
    generalize ([] : List VF).map vF = fs at hv2 hcr
    generalize fs.length = fl at hv2
    have HCR := Lib.hid hcr
    clear hcr hv
    have HV2 := Lib.hid (hv2.stay ((Below.refl _ _).alloc (Nat.le_refl _) (.cells #[.slice va fl vc] 30)))
    have HBX : Hid (Below w.heap.size w (w2.alloc (.cells #[.slice va fl vc] 30))) := hb_alloc HB2 _
    clear hb hv2 c0 c1
    go_wp2_with fail
    refine (V.code_r fs _ _ _ _ (HTV.out.below HBX.out) HV2.out _ HCR.out).mono ?_
    rintro e w3 ⟨rfl, hb⟩
    have HB3 : Hid (Below w.heap.size w w3) := hb_step HBX hb
    clear hb
    go_wp2_with fail
    go_ret
    exact ⟨rfl, HB3.out⟩
end Go.Proofs.YthfgagljplabpaaDoor
namespace Go.Proofs.YthfgagljplabpaaDoor
open Go.RowKit Go.Sort
set_option linter.unusedVariables false

theorem vc_walk {H : Type} {d0 : DataW H} (a1 : Option Addr) (n1 k1 : Nat) (a2 : Option Addr) (n2 k2 : Nat) (p : PT) (w : World)
    (o0 : PR w (.slice a1 n1 k1) (.slice a2 n2 k2) p ∧ k1 ≤ 2199023255488 ∧ k2 ≤ 1353245080300)
    (b0 : p.nodes.length ≤ Rows.uptoBulk d0) (hbk : Rows.uptoSmall H ([d0] ++ []) = true) (ht : Tab w ∧ V.Tab w ∧ ∃ mb mn, SmpAt w mb mn) :
    Calls Tryd.prog 6 #[.agg #[.slice a1 n1 k1, .slice a2 n2 k2]] w fun e w' => e = .returned (.bool true) ∧ Below w.heap.size w w' := by
  have hb : Rows.uptoBulk d0 + 0 ≤ 1048576 := of_decide_eq_true hbk
  obtain ⟨h1, h2, mb, mn, h3⟩ := ht
  exact vc_core a1 a2 n1 n2 k1 k2 p mb mn w h1 h2 h3 o0.1 (by omega)
end Go.Proofs.YthfgagljplabpaaDoor
