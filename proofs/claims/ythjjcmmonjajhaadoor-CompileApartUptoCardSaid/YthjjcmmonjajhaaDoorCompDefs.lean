/- Instructions, scopes and code as plain data and in memory; what the compiler writes, as plain functions. -/
import Derived.Test.YthjjcmmonjajhaaDoorTreePure
import Derived.Laws.AppendOwn
namespace Go.Proofs.YthjjcmmonjajhaaDoor
open Go.RowKit Go.Sort
set_option linter.unusedVariables false

/-- An instruction. -/
structure VI where
  op : Int
  a : Int
  n : Int
  deriving DecidableEq
instance : Inhabited VI := ⟨⟨0, 0, 0⟩⟩
/-- The names of a function, or of main. -/
structure SC where
  name : ByteArray
  params : Int
  vars : List ByteArray
  arrays : List ByteArray
instance : Inhabited SC := ⟨⟨ByteArray.empty, 0, [], []⟩⟩
/-- The first place below n that has a property; -1: there is none. -/
def firstI (n : Nat) (p : Nat → Bool) : Int := match (List.range n).find? p with | some i => (i : Int) | none => -1
theorem firstI_at {n : Nat} {p : Nat → Bool} {k : Nat} (hk : k < n) (h : p k = true) (hb : ∀ i, i < k → p i = false) : firstI n p = k := by
  unfold firstI
  have : (List.range n).find? p = some k := by
    rw [List.find?_eq_some_iff_getElem]
    refine ⟨h, k, by simpa using hk, by simp, fun j hj => ?_⟩
    simp only [List.getElem_range]
    rw [hb j hj]; rfl
  rw [this]
theorem firstI_no {n : Nat} {p : Nat → Bool} (hb : ∀ i, i < n → p i = false) : firstI n p = -1 := by
  unfold firstI
  have : (List.range n).find? p = none := by
    rw [List.find?_eq_none]
    intro i hi
    rw [hb i (List.mem_range.1 hi)]; decide
  rw [this]
theorem firstI_cases (n : Nat) (p : Nat → Bool) : (∃ k, k < n ∧ p k = true ∧ (∀ i, i < k → p i = false) ∧ firstI n p = k) ∨ ((∀ i, i < n → p i = false) ∧ firstI n p = -1) := by
  by_cases h : ∃ k, k < n ∧ p k = true
  · have key : ∀ m, (∃ k, k < m ∧ k < n ∧ p k = true) → ∃ k, k < n ∧ p k = true ∧ ∀ i, i < k → p i = false := by
      intro m
      induction m with
      | zero => rintro ⟨k, hk, _⟩; omega
      | succ m ih =>
        rintro ⟨k, hk, hn, hp⟩
        by_cases hm : ∃ k, k < m ∧ k < n ∧ p k = true
        · exact ih hm
        · obtain rfl : k = m := by
            rcases Nat.lt_or_ge k m with h' | h'
            · exact absurd ⟨k, h', hn, hp⟩ hm
            · omega
          refine ⟨k, hn, hp, fun i hi => ?_⟩
          cases hpi : p i with
          | false => rfl
          | true => exact absurd ⟨i, hi, by omega, hpi⟩ hm
    obtain ⟨k, hk, hp⟩ := h
    obtain ⟨k, hk, hp, hb⟩ := key n ⟨k, hk, hk, hp⟩
    exact .inl ⟨k, hk, hp, hb, firstI_at hk hp hb⟩
  · refine .inr ⟨fun i hi => ?_, firstI_no fun i hi => ?_⟩
    all_goals
      cases hpi : p i with
      | false => rfl
      | true => exact absurd ⟨i, hi, hpi⟩ h
theorem firstI_range (n : Nat) (p : Nat → Bool) : -1 ≤ firstI n p ∧ firstI n p < n := by
  rcases firstI_cases n p with ⟨k, hk, _, _, e⟩ | ⟨_, e⟩ <;> rw [e] <;> omega
/-- A name's place; a function's place. -/
def slotI (l : List ByteArray) (s : ByteArray) : Int := firstI l.length fun i => s.toList == (l.getD i ByteArray.empty).toList
def findI (l : List SC) (s : ByteArray) : Int := firstI l.length fun i => decide (0 < i) && ((l.getD i default).name.toList == s.toList)
/-- An expression's own instruction. -/
def insE (all : List SC) (sc : SC) (o n : Int) (s : ByteArray) : VI :=
  if o = 1 then ⟨1, 0, n⟩
  else if o = 2 then ⟨2, slotI sc.vars s, 0⟩
  else if o = 3 then ⟨25, 0, 0⟩
  else if o = 4 then ⟨23, slotI sc.arrays s, 0⟩
  else if o = 5 then ⟨17, findI all s, 0⟩
  else ⟨wrap64 (wrap64 (o - 6) + 4), 0, 0⟩
mutual
def ET.code (all : List SC) (sc : SC) : ET → List VI
  | .mk o n s l => ET.codeL all sc l ++ [insE all sc o n s]
def ET.codeL (all : List SC) (sc : SC) : List ET → List VI
  | [] => []
  | e :: r => ET.code all sc e ++ ET.codeL all sc r
end
/-- Is a name that of a secret? -/
def secretB (s : ByteArray) : Bool := decide (0 < s.size) && (decide (65 ≤ byteAt s 0) && decide (byteAt s 0 ≤ 90))
/-- The last instruction of a statement that is no branch. -/
def insS (sc : SC) (o n : Int) (s : ByteArray) : VI :=
  if o = 1 then ⟨3, slotI sc.vars s, 0⟩
  else if o = 2 then ⟨24, slotI sc.arrays s, 0⟩
  else if o = 3 then ⟨22, slotI sc.arrays s, n⟩
  else if o = 4 then ⟨21, slotI sc.vars s, if secretB s then 1 else 0⟩
  else ⟨if o = 5 then 19 else if o = 6 then 20 else if o = 9 then 18 else 0, 0, 0⟩
mutual
/-- A statement's instructions where its first one stands at a place. -/
def ST.code (all : List SC) (sc : SC) : ST → Nat → List VI
  | .mk o n s l b e, at_ =>
    let x := ET.codeL all sc l
    if o = 7 ∨ o = 8 then
      let bc := ST.codeL all sc b (at_ + x.length + 1)
      let j := at_ + x.length + 1 + bc.length
      if o = 7 then
        let ec := ST.codeL all sc e (j + 1)
        x ++ [⟨16, (j + 1 : Nat), 0⟩] ++ bc ++ [⟨15, (j + 1 + ec.length : Nat), 0⟩] ++ ec
      else x ++ [⟨16, (j + 1 : Nat), 0⟩] ++ bc ++ [⟨15, (at_ : Nat), 0⟩]
    else x ++ [insS sc o n s]
def ST.codeL (all : List SC) (sc : SC) : List ST → Nat → List VI
  | [], _ => []
  | s :: r, at_ => ST.code all sc s at_ ++ ST.codeL all sc r (at_ + (ST.code all sc s at_).length)
end
theorem ET.codeL_append (all : List SC) (sc : SC) (l r : List ET) : ET.codeL all sc (l ++ r) = ET.codeL all sc l ++ ET.codeL all sc r := by
  induction l with
  | nil => rfl
  | cons e l ih => simp only [List.cons_append, ET.codeL, ih, List.append_assoc]
theorem ST.codeL_append (all : List SC) (sc : SC) (l r : List ST) : ∀ at_, ST.codeL all sc (l ++ r) at_ = ST.codeL all sc l at_ ++ ST.codeL all sc r (at_ + (ST.codeL all sc l at_).length) := by
  induction l with
  | nil => intro at_; rfl
  | cons e l ih => intro at_; simp only [List.cons_append, ST.codeL, ih, List.append_assoc, List.length_append, Nat.add_assoc]
theorem ET.codeL_take (all : List SC) (sc : SC) (l : List ET) (k : Nat) (h : k < l.length) : ET.codeL all sc (l.take (k + 1)) = ET.codeL all sc (l.take k) ++ (l.getD k default).code all sc := by
  rw [take_next l default k h, ET.codeL_append]; simp [ET.codeL]
theorem ST.codeL_take (all : List SC) (sc : SC) (l : List ST) (at_ k : Nat) (h : k < l.length) : ST.codeL all sc (l.take (k + 1)) at_ = ST.codeL all sc (l.take k) at_ ++ (l.getD k default).code all sc (at_ + (ST.codeL all sc (l.take k) at_).length) := by
  rw [take_next l default k h, ST.codeL_append]; simp [ST.codeL]
theorem ET.code_parts (all : List SC) (sc : SC) (e : ET) : e.code all sc = ET.codeL all sc e.parts ++ [insE all sc e.op e.num e.name] := by cases e; rfl
/- As many instructions as expressions; no more than two for each statement beside. -/
mutual
theorem ET.code_len (all : List SC) (sc : SC) : ∀ (e : ET) (d : Int), (e.code all sc).length = (e.nodes d).length
  | .mk o n s l, d => by simp only [ET.code, ET.nodes, List.length_append, List.length_cons, List.length_nil]; rw [ET.codeL_len all sc l]
theorem ET.codeL_len (all : List SC) (sc : SC) : ∀ (l : List ET) (d : Int), (ET.codeL all sc l).length = (ET.nodesL l d).length
  | [], _ => rfl
  | e :: r, d => by simp only [ET.codeL, ET.nodesL, List.length_append]; rw [ET.code_len all sc e d, ET.codeL_len all sc r d]
end
mutual
theorem ST.code_len (all : List SC) (sc : SC) : ∀ (e : ST) (at_ : Nat) (d : Int), (e.code all sc at_).length ≤ 2 * (e.nodes d).length
  | .mk o n s l b e, at_, d => by
    have h1 := ET.codeL_len all sc l (wrap64 (d + 1))
    have h2 := ST.codeL_len all sc b (at_ + (ET.codeL all sc l).length + 1) (wrap64 (d + 1))
    have h3 := ST.codeL_len all sc e (at_ + (ET.codeL all sc l).length + 1 + (ST.codeL all sc b (at_ + (ET.codeL all sc l).length + 1)).length + 1) (wrap64 (d + 1))
    simp only [ST.code, ST.nodes, List.length_cons, List.length_append]
    split
    · split
      · simp only [List.length_append, List.length_cons, List.length_nil]; omega
      · simp only [List.length_append, List.length_cons, List.length_nil]; omega
    · simp only [List.length_append, List.length_cons, List.length_nil]; omega
theorem ST.codeL_len (all : List SC) (sc : SC) : ∀ (l : List ST) (at_ : Nat) (d : Int), (ST.codeL all sc l at_).length ≤ 2 * (ST.nodesL l d).length
  | [], _, _ => by simp [ST.codeL]
  | e :: r, at_, d => by
    have h1 := ST.code_len all sc e at_ d
    have h2 := ST.codeL_len all sc r (at_ + (e.code all sc at_).length) d
    simp only [ST.codeL, ST.nodesL, List.length_append]; omega
end

/- In memory. -/
def insC (i : VI) : List Value := [.int .i64 i.op, .int .i64 i.a, .int .i64 i.n]
def insR (l : List VI) : List Value := l.flatMap insC
theorem insR_append (l r : List VI) : insR (l ++ r) = insR l ++ insR r := by simp [insR]
theorem insR_length (l : List VI) : (insR l).length = l.length * 3 := by
  induction l with
  | nil => rfl
  | cons x l ih => simp [insR] at ih ⊢; rw [ih]; simp [insC]; omega
theorem insR_at (l : List VI) (i j : Nat) (hi : i < l.length) (hj : j < 3) : (insR l)[i * 3 + j]? = (insC (l.getD i default))[j]? := by
  induction l generalizing i with
  | nil => simp at hi
  | cons x l ih =>
    have e : insR (x :: l) = insC x ++ insR l := by simp [insR]
    rw [e]
    cases i with
    | zero => rw [List.getElem?_append_left (by show _ < 3; omega)]; simp
    | succ i =>
      rw [List.getElem?_append_right (by show 3 ≤ _; omega)]
      have : (i + 1) * 3 + j - (insC x).length = i * 3 + j := by show (i + 1) * 3 + j - 3 = _; omega
      rw [this, ih i (by simpa using hi)]; simp
/-- A slice of scopes in memory. -/
inductive CSl (w : World) : Value → List SC → Prop
  | mk (a : Option Addr) (b off cap : Nat) (l : List SC) (f g : Nat → Value) : At a l.length b off → l.length ≤ cap → cap ≤ maxLen →
      (∀ i, i < l.length → w.cell? ⟨b, off + i * 4, .none⟩ = .some (.string (l.getD i default).name) ∧ w.cell? ⟨b, off + i * 4 + 1, .none⟩ = .some (.int .i64 (l.getD i default).params) ∧ w.cell? ⟨b, off + i * 4 + 2, .none⟩ = .some (f i) ∧ w.cell? ⟨b, off + i * 4 + 3, .none⟩ = .some (g i)) →
      (∀ i, i < l.length → TSl w (f i) (l.getD i default).vars) → (∀ i, i < l.length → TSl w (g i) (l.getD i default).arrays) → CSl w (.slice a l.length cap) l
theorem CSl.stay {w w' : World} (hb : Below w.heap.size w w') {v : Value} {l : List SC} (h : CSl w v l) : CSl w' v l := by
  cases h with
  | mk a b off cap l f g ha hc hm hcell h1 h2 =>
    exact .mk a b off cap l f g ha hc hm (fun i hi => by
      have hlt : b < w.heap.size := lt_of_cell (hcell i hi).1
      exact ⟨(hb.cell hlt).trans (hcell i hi).1, (hb.cell hlt).trans (hcell i hi).2.1, (hb.cell hlt).trans (hcell i hi).2.2.1, (hb.cell hlt).trans (hcell i hi).2.2.2⟩) (fun i hi => (h1 i hi).stay hb) (fun i hi => (h2 i hi).stay hb)
theorem cell_of_heap {W : World} {b : Nat} {cs : Array Value} {t : TypeId} {fr : Nat × Nat} (h : W.heap[b]? = some (.cells cs t fr)) (j : Nat) : W.cell? ⟨b, j, none⟩ = cs[j]? := by
  simp [World.cell?, h]
theorem free_of_heap {W : World} {B : Nat} {cs : Array Value} {t : TypeId} (h : W.heap[B]? = some (.cells cs t (0, 0))) (j : Nat) : W.frozen? ⟨B, j, none⟩ = false := by simp [World.frozen?, h]
theorem heap_set {W : World} {B : Nat} {cs : Array Value} {t : TypeId} (h : W.heap[B]? = some (.cells cs t (0, 0))) (j : Nat) (v : Value) : (W.setCell ⟨B, j, none⟩ v).heap[B]? = some (.cells (cs.setIfInBounds j v) t (0, 0)) := by
  obtain ⟨hlt, hk⟩ := Array.getElem?_eq_some_iff.1 h
  show (W.heap.modify B _)[B]? = _
  rw [Array.getElem?_eq_getElem (by rw [Array.size_modify]; exact hlt), Array.getElem_modify_self, hk]
  rfl
theorem grown_set (W : World) (b j : Nat) (v : Value) : W.grownBy (W.setCell ⟨b, j, none⟩ v) (some b) :=
  ⟨rfl, rfl, rfl, by simp [World.setCell], fun k _ hk => Below.heap_setCell _ _ _ k (fun e => hk (by rw [e]))⟩
theorem grown_of_below {w w' : World} (h : Below w.heap.size w w') : w.grownBy w' none := ⟨h.os, h.tape, h.output, h.size, fun k hk _ => h.block k hk⟩

/-- What the writer of a function's code may turn: her own box, rows of instructions; new blocks; nothing below a mark. -/
structure Wk (n0 wb : Nat) (W W' : World) : Prop where
  below : Below n0 W W'
  kept : ∀ k o, W.heap[k]? = some o → k ≠ wb → (∀ cs fr, o ≠ .cells cs 45 fr) → W'.heap[k]? = some o
theorem Wk.refl (n0 wb : Nat) (W : World) : Wk n0 wb W W := ⟨Below.refl _ _, fun _ _ h _ _ => h⟩
theorem Wk.trans {n0 wb : Nat} {a b c : World} (h : Wk n0 wb a b) (k : Wk n0 wb b c) : Wk n0 wb a c :=
  ⟨h.below.trans k.below, fun i o hi hne ho => k.kept i o (h.kept i o hi hne ho) hne ho⟩
theorem Wk.of_below {n0 wb : Nat} {a b : World} (hn : n0 ≤ a.heap.size) (h : Below a.heap.size a b) : Wk n0 wb a b :=
  ⟨h.mono hn, fun k o hk _ _ => (h.block k (lt_of_heap hk)).trans hk⟩
theorem Wk.size {n0 wb : Nat} {a b : World} (h : Wk n0 wb a b) : a.heap.size ≤ b.heap.size := h.below.size
/-- The writer in memory: her scope, all scopes, the instructions so far. -/
structure Wr (n0 : Nat) (W : World) (wb : Nat) (sc : SC) (vv av all : Value) (l : List VI) : Prop where
  ge : n0 ≤ wb
  box : ∃ lv, W.heap[wb]? = some (.cells #[.string sc.name, .int .i64 sc.params, vv, av, all, lv] 60 (0, 0)) ∧ W.ownsRow n0 45 3 lv l.length (insR l)
theorem Wr.lt {n0 : Nat} {W : World} {wb : Nat} {sc : SC} {vv av all : Value} {l : List VI} (h : Wr n0 W wb sc vv av all l) : wb < W.heap.size := by
  obtain ⟨_, lv, hb, _⟩ := h; exact lt_of_heap hb
theorem Wr.stay {n0 : Nat} {W W' : World} {wb : Nat} {sc : SC} {vv av all : Value} {l : List VI} (h : Wr n0 W wb sc vv av all l) (hb : Below W.heap.size W W') : Wr n0 W' wb sc vv av all l := by
  obtain ⟨hg, lv, hk, ho⟩ := h
  exact ⟨hg, lv, (hb.block _ (lt_of_heap hk)).trans hk, ho.kept (grown_of_below hb) (by cases lv.ownBlock <;> simp)⟩
theorem infoI : (Tryd.prog.info? 45).map (fun i => (i.zero, i.size, i.bytes)) = some (some (.agg #[.int .i64 0, .int .i64 0, .int .i64 0]), 3, 24) := by kernel_rfl
/-- A row of one's own lies in no box of another type. -/
theorem own_ne_box {w : World} {base : Nat} {e : TypeId} {size n : Nat} {v : Value} {xs : List Value} (h : w.ownsRow base e size v n xs) {b : Nat} {cs : Array Value} {t : TypeId} {fr : Nat × Nat} (hb : w.heap[b]? = some (.cells cs t fr)) (ht : t ≠ e) : some b ≠ v.ownBlock := by
  obtain ⟨_, ⟨rfl, _⟩ | ⟨g, cap, cur, rfl, _, hg, _⟩⟩ := h
  · simp [Value.ownBlock]
  · simp only [Value.ownBlock]
    intro e'
    cases e'
    rw [hg] at hb
    injection hb with hb
    injection hb with _ h2 _
    exact ht h2.symm
theorem own_ge {w : World} {base : Nat} {e : TypeId} {size n : Nat} {v : Value} {xs : List Value} (h : w.ownsRow base e size v n xs) {r : Nat} (hr : v.ownBlock = some r) : base ≤ r := (h.lt r hr).1
theorem ownsRow_succ' {W : World} {base : Nat} {e : TypeId} {size : Nat} {v : Value} {k : Nat} {xs : List Value} (h : W.ownsRow base e size v (k + 1) xs) : ∃ g cap, v = .slice (some ⟨g, 0, none⟩) (k + 1) cap := by
  obtain ⟨_, ⟨_, h0⟩ | ⟨g, cap, _, rfl, _⟩⟩ := h
  · omega
  · exact ⟨g, cap, rfl⟩
theorem own_shape {W : World} {base : Nat} {e : TypeId} {size : Nat} {v : Value} {k : Nat} {xs : List Value} (h : W.ownsRow base e size v k xs) : ∃ a cap, v = .slice a k cap := by
  obtain ⟨_, ⟨rfl, h0⟩ | ⟨g, cap, _, rfl, _⟩⟩ := h
  · subst h0; exact ⟨_, _, rfl⟩
  · exact ⟨_, _, rfl⟩
theorem own_cell {w : World} {base n : Nat} {e : TypeId} {size : Nat} {g cap : Nat} {xs : List Value} (h : w.ownsRow base e size (.slice (some ⟨g, 0, none⟩) n cap) n xs) (i : Nat) (hi : i < n * size) : w.cell? ⟨g, i, none⟩ = xs[i]? := by
  obtain ⟨hl, ⟨h0, _⟩ | ⟨g', cap', cur, hv, _, hg, hn, hm, hc, ht⟩⟩ := h
  · cases h0
  · cases hv
    simp [World.cell?, hg]
    rw [← ht, List.getElem?_take, if_pos hi]; simp
end Go.Proofs.YthjjcmmonjajhaaDoor
