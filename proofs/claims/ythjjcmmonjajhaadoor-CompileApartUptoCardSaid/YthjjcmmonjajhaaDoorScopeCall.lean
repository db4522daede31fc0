/- How many parameters a function has, by its name: the map of Resolve, and its closure. -/
import Derived.Test.YthjjcmmonjajhaaDoorScopeFd
namespace Go.Proofs.YthjjcmmonjajhaaDoor
open Go.RowKit Go.Sort Go.Maps
set_option linter.unusedVariables false

/-- A function's parameters, by its name. -/
def paramOf (fs : List FT) (s : ByteArray) : Option Nat := (fs.find? fun f => s.toList == f.name.toList).map (·.params.length)
def callB (fs : List FT) (s : ByteArray) (n : Nat) : Bool := paramOf fs s == some n
def litN (n : Int) : DataW Unit := .lit (.int .i64 n)
/-- A map says just how many parameters each function has. -/
def ParIs (D : DataW Unit) (fs : List FT) : Prop := IsMap D ∧ ∀ s : ByteArray, Maps.has D (keyL s) = (paramOf fs s).isSome ∧ D.atKey (keyL s) (litN 0) = litN (((paramOf fs s).getD 0 : Nat) : Int)
theorem parIs_empty : ParIs (.map []) [] := ⟨isMap_empty, fun s => ⟨rfl, rfl⟩⟩
theorem ParIs.put {D : DataW Unit} {fs : List FT} (h : ParIs D fs) (f : FT) (hn : paramOf fs f.name = none) : ParIs (D.put (keyL f.name) (litN f.params.length)) (fs ++ [f]) := by
  refine ⟨h.1.put _ _, fun t => ?_⟩
  have e : paramOf (fs ++ [f]) t = (paramOf fs t).or (if t.toList == f.name.toList then some f.params.length else none) := by
    unfold paramOf
    rw [List.find?_append]
    cases hh : fs.find? (fun f => t.toList == f.name.toList) with
    | some x => simp
    | none => by_cases hx : t.toList == f.name.toList <;> simp [hx]
  rw [e]
  by_cases hts : t.toList = f.name.toList
  · have hk : keyL t = keyL f.name := by
      unfold keyL
      rw [ByteArray.toList_eq, ByteArray.toList_eq] at hts
      rw [hts]
    have hp : paramOf fs t = none := by
      have : paramOf fs t = paramOf fs f.name := by unfold paramOf; rw [hts]
      rw [this, hn]
    rw [hk, has_put_same h.1 (by simp [WideAt.IsKeyLit, keyL]) _, atKey_put_same h.1 (by simp [WideAt.IsKeyLit, keyL]) _ _, hp, hts]
    simp
  · have hk : keyL t ≠ keyL f.name := by
      intro h'
      unfold keyL at h'
      injection h' with h'
      rw [ByteArray.toList_eq, ByteArray.toList_eq] at hts
      exact hts h'
    have hf : (t.toList == f.name.toList) = false := by simpa using hts
    rw [has_put_other hk, atKey_put_other hk, hf]
    have := h.2 t
    simpa using this
theorem zeroInt' (w : World) : (zeroValue 3).run Tryd.prog w = .ok (.int .i64 0) w := by kernel_rfl
/-- The closure's variable, and the map. -/
def PmAt (w : World) (pb pm n : Nat) (fs : List FT) : Prop := w.cell? ⟨pb, 0, none⟩ = some (.map (some pm)) ∧ ∃ D, w.ownsMap Tryd.prog 9 (plainElem Tryd.prog 3) pm n D ∧ ParIs D fs
theorem PmAt.stay {w w' : World} {pb pm n : Nat} {fs : List FT} (h : PmAt w pb pm n fs) (hb : Below w.heap.size w w') : PmAt w' pb pm n fs := by
  obtain ⟨h1, D, h2, h3⟩ := h
  exact ⟨(hb.cell (p := ⟨pb, 0, none⟩) (lt_of_cell h1)).trans h1, D, h2.kept (grown_of_below hb) (by simp), h3⟩

set_option maxHeartbeats 2000000 in
set_option maxRecDepth 1000000 in
theorem call_r (pb pm n : Nat) (fs : List FT) (s : ByteArray) (hs : s.size ≤ 32) (k : Nat) (w : World) (hp : PmAt w pb pm n fs) (q : Bool) (hq : callB fs s k = q) :
    Calls Tryd.prog 19 #[.string s, .int .i64 k, .pointer (some ⟨pb, 0, none⟩)] w fun e w' => e = .returned (.bool q) ∧ w' = w := by
  obtain ⟨c0, D, hown, hD⟩ := hp
  obtain ⟨h1, h2⟩ := hD.2 s
  have HOW := Lib.hid hown
  have HH := Lib.hid h1
  have H2 := Lib.hid h2
  unfold callB at hq
  generalize paramOf fs s = po at HH H2 hq
  clear hown h1 h2 hD
  cases po with
  | none =>
    obtain rfl : q = false := by rw [← hq]; rfl
    clear hq
    go_enter Tryd.func19, Tryd.ntmps19
    go_wp2_with (at_lookup; refine wpList_lookup_own_ok_int _ rfl _ _ 73 rfl 9 3 .i64 lawStr Tryd.underlying73 Tryd.underlying3 (zeroInt' _) pm n D rfl HOW.out _ _ rfl (WideMaps.keyOf_string_mk Tryd.underlying9 (s := s) (by unfold maxLen; omega)) ?_; intro c hat hwc; rw [show Maps.has D (.string s.data.toList) = false from HH.out])
    go_ret
    exact ⟨rfl, rfl⟩
  | some m =>
    have hx : (((m : Int) == (k : Int)) = true ∧ q = true) ∨ (((m : Int) == (k : Int)) = false ∧ q = false) := by
      by_cases h : m = k
      · subst h; exact .inl ⟨by simp, by rw [← hq]; simp⟩
      · refine .inr ⟨by simp; omega, by rw [← hq]; simpa using h⟩
    clear hq
    rcases hx with ⟨hx, rfl⟩ | ⟨hx, rfl⟩
    all_goals
      go_enter Tryd.func19, Tryd.ntmps19
      go_wp2_with (at_lookup; refine wpList_lookup_own_ok_int _ rfl _ _ 73 rfl 9 3 .i64 lawStr Tryd.underlying73 Tryd.underlying3 (zeroInt' _) pm n D rfl HOW.out _ _ rfl (WideMaps.keyOf_string_mk Tryd.underlying9 (s := s) (by unfold maxLen; omega)) ?_; intro c hat hwc; rw [show Maps.has D (.string s.data.toList) = true from HH.out]; obtain rfl : c = (m : Int) := by (have h' : litN c = litN m := hat.symm.trans H2.out); (unfold litN at h'); (injection h' with h'); (injection h' with _ h'))
      go_ret
      exact ⟨rfl, rfl⟩

/- What is found: plain functions. -/
mutual
def ET.gather (cl : ByteArray → Nat → Bool) : ET → FS → FS
  | .mk o n s l, st => ET.gatherL cl l (if o = 2 then { st with vars := addL st.vars s } else if o = 4 then { st with arrays := addL st.arrays s } else if o = 5 then { st with wrong := st.wrong || !cl s l.length } else st)
def ET.gatherL (cl : ByteArray → Nat → Bool) : List ET → FS → FS
  | [], st => st
  | e :: r, st => ET.gatherL cl r (ET.gather cl e st)
end
def ST.own (o : Int) (s : ByteArray) (st : FS) : FS :=
  if o = 3 then { st with made := addL st.made s, arrays := addL st.arrays s } else if o = 2 then { st with arrays := addL st.arrays s } else if o = 1 ∨ o = 4 then { st with vars := addL st.vars s } else st
mutual
def ST.gather (cl : ByteArray → Nat → Bool) : ST → FS → FS
  | .mk o n s l b e, st => ST.gatherL cl e (ST.gatherL cl b (ET.gatherL cl l (ST.own o s st)))
def ST.gatherL (cl : ByteArray → Nat → Bool) : List ST → FS → FS
  | [], st => st
  | e :: r, st => ST.gatherL cl r (ST.gather cl e st)
end
theorem ET.gatherL_append (cl : ByteArray → Nat → Bool) (l r : List ET) : ∀ st, ET.gatherL cl (l ++ r) st = ET.gatherL cl r (ET.gatherL cl l st) := by
  induction l with
  | nil => intro st; rfl
  | cons e l ih => intro st; simp only [List.cons_append, ET.gatherL]; exact ih _
theorem ST.gatherL_append (cl : ByteArray → Nat → Bool) (l r : List ST) : ∀ st, ST.gatherL cl (l ++ r) st = ST.gatherL cl r (ST.gatherL cl l st) := by
  induction l with
  | nil => intro st; rfl
  | cons e l ih => intro st; simp only [List.cons_append, ST.gatherL]; exact ih _
theorem ET.gatherL_take (cl : ByteArray → Nat → Bool) (l : List ET) (st : FS) (k : Nat) (h : k < l.length) : ET.gatherL cl (l.take (k + 1)) st = (l.getD k default).gather cl (ET.gatherL cl (l.take k) st) := by
  rw [take_next l default k h, ET.gatherL_append]; simp [ET.gatherL]
theorem ST.gatherL_take (cl : ByteArray → Nat → Bool) (l : List ST) (st : FS) (k : Nat) (h : k < l.length) : ST.gatherL cl (l.take (k + 1)) st = (l.getD k default).gather cl (ST.gatherL cl (l.take k) st) := by
  rw [take_next l default k h, ST.gatherL_append]; simp [ST.gatherL]
/-- No list is longer than so many. -/
def FS.le (st : FS) (k : Nat) : Prop := st.vars.length ≤ k ∧ st.arrays.length ≤ k ∧ st.made.length ≤ k
theorem addL_le (l : List ByteArray) (s : ByteArray) : (addL l s).length ≤ l.length + 1 := by
  unfold addL; split
  · omega
  · simp
theorem FS.le_mono {st : FS} {k k' : Nat} (h : st.le k) (hk : k ≤ k') : st.le k' := ⟨Nat.le_trans h.1 hk, Nat.le_trans h.2.1 hk, Nat.le_trans h.2.2 hk⟩
mutual
theorem ET.gather_le (cl : ByteArray → Nat → Bool) : ∀ (e : ET) (st : FS) (k : Nat) (d : Int), st.le k → (e.gather cl st).le (k + (e.nodes d).length)
  | .mk o n s l, st, k, d, h => by
    simp only [ET.gather, ET.nodes, List.length_cons]
    have h1 := addL_le st.vars s
    have h2 := addL_le st.arrays s
    obtain ⟨a, b, c⟩ := h
    refine FS.le_mono (ET.gatherL_le cl l _ (k + 1) (wrap64 (d + 1)) ?_) (by omega)
    split
    · exact ⟨by simp only; omega, by simp only; omega, by simp only; omega⟩
    · split
      · exact ⟨by simp only; omega, by simp only; omega, by simp only; omega⟩
      · split
        · exact ⟨by simp only; omega, by simp only; omega, by simp only; omega⟩
        · exact ⟨by omega, by omega, by omega⟩
theorem ET.gatherL_le (cl : ByteArray → Nat → Bool) : ∀ (l : List ET) (st : FS) (k : Nat) (d : Int), st.le k → (ET.gatherL cl l st).le (k + (ET.nodesL l d).length)
  | [], st, k, d, h => by simpa [ET.gatherL, ET.nodesL] using h
  | e :: r, st, k, d, h => by
    simp only [ET.gatherL, ET.nodesL, List.length_append]
    exact FS.le_mono (ET.gatherL_le cl r _ _ d (ET.gather_le cl e st k d h)) (by omega)
end
mutual
theorem ST.gather_le (cl : ByteArray → Nat → Bool) : ∀ (e : ST) (st : FS) (k : Nat) (d : Int), st.le k → (e.gather cl st).le (k + (e.nodes d).length)
  | .mk o n s l b e, st, k, d, h => by
    simp only [ST.gather, ST.nodes, List.length_cons, List.length_append]
    have h1 := addL_le st.vars s
    have h2 := addL_le st.arrays s
    have h3 := addL_le st.made s
    obtain ⟨a, b', c⟩ := h
    have h0 : (ST.own o s st).le (k + 1) := by
      unfold ST.own
      split
      · exact ⟨by simp only; omega, by simp only; omega, by simp only; omega⟩
      · split
        · exact ⟨by simp only; omega, by simp only; omega, by simp only; omega⟩
        · split
          · exact ⟨by simp only; omega, by simp only; omega, by simp only; omega⟩
          · exact ⟨by omega, by omega, by omega⟩
    exact FS.le_mono (ST.gatherL_le cl e _ _ (wrap64 (d + 1)) (ST.gatherL_le cl b _ _ (wrap64 (d + 1)) (ET.gatherL_le cl l _ _ (wrap64 (d + 1)) h0))) (by omega)
theorem ST.gatherL_le (cl : ByteArray → Nat → Bool) : ∀ (l : List ST) (st : FS) (k : Nat) (d : Int), st.le k → (ST.gatherL cl l st).le (k + (ST.nodesL l d).length)
  | [], st, k, d, h => by simpa [ST.gatherL, ST.nodesL] using h
  | e :: r, st, k, d, h => by
    simp only [ST.gatherL, ST.nodesL, List.length_append]
    exact FS.le_mono (ST.gatherL_le cl r _ _ d (ST.gather_le cl e st k d h)) (by omega)
end
/- All names are short. -/
mutual
def ET.shB : ET → Bool
  | .mk _ _ s l => decide (s.size ≤ 32) && ET.shL l
def ET.shL : List ET → Bool
  | [] => true
  | e :: r => ET.shB e && ET.shL r
end
mutual
def ST.shB : ST → Bool
  | .mk _ _ s l b e => decide (s.size ≤ 32) && (ET.shL l && (ST.shL b && ST.shL e))
def ST.shL : List ST → Bool
  | [] => true
  | e :: r => ST.shB e && ST.shL r
end
theorem ET.shL_iff (l : List ET) : ET.shL l = true ↔ ∀ i, i < l.length → (l.getD i default).shB = true := by
  induction l with
  | nil => simp [ET.shL]
  | cons e r ih =>
    simp only [ET.shL, Bool.and_eq_true, List.length_cons]
    rw [ih]
    constructor
    · rintro ⟨h1, h2⟩ i hi
      cases i with
      | zero => exact h1
      | succ i => exact h2 i (by omega)
    · intro h
      exact ⟨h 0 (by omega), fun i hi => h (i + 1) (by omega)⟩
theorem ST.shL_iff (l : List ST) : ST.shL l = true ↔ ∀ i, i < l.length → (l.getD i default).shB = true := by
  induction l with
  | nil => simp [ST.shL]
  | cons e r ih =>
    simp only [ST.shL, Bool.and_eq_true, List.length_cons]
    rw [ih]
    constructor
    · rintro ⟨h1, h2⟩ i hi
      cases i with
      | zero => exact h1
      | succ i => exact h2 i (by omega)
    · intro h
      exact ⟨h 0 (by omega), fun i hi => h (i + 1) (by omega)⟩
theorem ET.shB_parts (e : ET) : e.shB = (decide (e.name.size ≤ 32) && ET.shL e.parts) := by cases e; rfl
theorem ST.shB_parts (e : ST) : e.shB = (decide (e.name.size ≤ 32) && (ET.shL e.parts && (ST.shL e.body && ST.shL e.els))) := by cases e; rfl
theorem fits_short {nm : Bool} {least most parts : Int} {s : ByteArray} {n k : Int} (h : fitsB nm least most parts s n k = true) : s.size ≤ 32 := by
  unfold fitsB at h
  simp only [Bool.and_eq_true] at h
  have h4 := h.2.2.2
  cases nm with
  | true =>
    rw [if_pos rfl] at h4
    unfold nameB at h4
    simp only [Bool.and_eq_true, decide_eq_true_eq] at h4
    omega
  | false =>
    rw [if_neg (by decide)] at h4
    have : s.toList.length = s.size := by rw [ByteArray.toList_eq]; cases s; rfl
    rw [List.isEmpty_iff] at h4
    rw [h4] at this
    simp at this; omega
mutual
theorem ET.shB_of : ∀ (e : ET) (d : Int), (e.nodes d).all (·.1) = true → e.shB = true
  | .mk o n s l, d, h => by
    simp only [ET.nodes, List.all_cons, Bool.and_eq_true] at h
    simp only [ET.shB, Bool.and_eq_true]
    refine ⟨?_, ET.shL_of l _ h.2⟩
    have := h.1
    unfold exprB exprFits at this
    exact decide_eq_true (fits_short ((Bool.and_eq_true _ _).mp this).2)
theorem ET.shL_of : ∀ (l : List ET) (d : Int), (ET.nodesL l d).all (·.1) = true → ET.shL l = true
  | [], _, _ => rfl
  | e :: r, d, h => by
    simp only [ET.nodesL, List.all_append, Bool.and_eq_true] at h
    simp only [ET.shL, Bool.and_eq_true]
    exact ⟨ET.shB_of e d h.1, ET.shL_of r d h.2⟩
end
mutual
theorem ST.shB_of : ∀ (e : ST) (d : Int), (e.nodes d).all (·.1) = true → e.shB = true
  | .mk o n s l b e, d, h => by
    simp only [ST.nodes, List.all_cons, List.all_append, Bool.and_eq_true] at h
    simp only [ST.shB, Bool.and_eq_true]
    refine ⟨?_, ET.shL_of l _ h.2.1, ST.shL_of b _ h.2.2.1, ST.shL_of e _ h.2.2.2⟩
    have := h.1
    unfold stmtB stmtFits at this
    exact decide_eq_true (fits_short ((Bool.and_eq_true _ _).mp ((Bool.and_eq_true _ _).mp this).2).1)
theorem ST.shL_of : ∀ (l : List ST) (d : Int), (ST.nodesL l d).all (·.1) = true → ST.shL l = true
  | [], _, _ => rfl
  | e :: r, d, h => by
    simp only [ST.nodesL, List.all_append, Bool.and_eq_true] at h
    simp only [ST.shL, Bool.and_eq_true]
    exact ⟨ST.shB_of e d h.1, ST.shL_of r d h.2⟩
end
end Go.Proofs.YthjjcmmonjajhaaDoor
