/- Instructions, scopes and code as plain data and in memory; what the compiler writes, as plain functions. put, lands; Slot, Find, Secret. lands: a jump's target is set. Slot, Find, Secret. An expression's own instruction is written; expressions are. Expressions are written. branch: If and While. -/
import Derived.Test.YthjjcmmonjajhaaGreatDoorTrees
import Derived.Laws.AppendOwn
import Derived.Deep.QuietTactic
import Derived.Test.YthjjcmmonjajhaaGreatDoorFlows
import Derived.BigQuiet
namespace Go.Proofs.YthjjcmmonjajhaaGreatDoor
open Go.RowKit Go.Sort
set_option linter.unusedVariables false

/-- An instruction. -/
structure VI where
  op : Int
  a : Int
  n : Int
  deriving DecidableEq
instance : Inhabited VI := ⟨⟨0, 0, 0⟩⟩
/-- The names of a function, or of main. -/
structure SC where
  name : ByteArray
  params : Int
  vars : List ByteArray
  arrays : List ByteArray
instance : Inhabited SC := ⟨⟨ByteArray.empty, 0, [], []⟩⟩
/-- The first place below n that has a property; -1: there is none. -/
def firstI (n : Nat) (p : Nat → Bool) : Int := match (List.range n).find? p with | some i => (i : Int) | none => -1
theorem firstI_at {n : Nat} {p : Nat → Bool} {k : Nat} (hk : k < n) (h : p k = true) (hb : ∀ i, i < k → p i = false) : firstI n p = k := by
  unfold firstI
  have : (List.range n).find? p = some k := by
    rw [List.find?_eq_some_iff_getElem]
    refine ⟨h, k, by simpa using hk, by simp, fun j hj => ?_⟩
    simp only [List.getElem_range]
    rw [hb j hj]; rfl
  rw [this]
theorem firstI_no {n : Nat} {p : Nat → Bool} (hb : ∀ i, i < n → p i = false) : firstI n p = -1 := by
  unfold firstI
  have : (List.range n).find? p = none := by
    rw [List.find?_eq_none]
    intro i hi
    rw [hb i (List.mem_range.1 hi)]; decide
  rw [this]
theorem firstI_cases (n : Nat) (p : Nat → Bool) : (∃ k, k < n ∧ p k = true ∧ (∀ i, i < k → p i = false) ∧ firstI n p = k) ∨ ((∀ i, i < n → p i = false) ∧ firstI n p = -1) := by
  by_cases h : ∃ k, k < n ∧ p k = true
  · have key : ∀ m, (∃ k, k < m ∧ k < n ∧ p k = true) → ∃ k, k < n ∧ p k = true ∧ ∀ i, i < k → p i = false := by
      intro m
      induction m with
      | zero => rintro ⟨k, hk, _⟩; omega
      | succ m ih =>
        rintro ⟨k, hk, hn, hp⟩
        by_cases hm : ∃ k, k < m ∧ k < n ∧ p k = true
        · exact ih hm
        · obtain rfl : k = m := by
            rcases Nat.lt_or_ge k m with h' | h'
            · exact absurd ⟨k, h', hn, hp⟩ hm
            · omega
          refine ⟨k, hn, hp, fun i hi => ?_⟩
          cases hpi : p i with
          | false => rfl
          | true => exact absurd ⟨i, hi, by omega, hpi⟩ hm
    obtain ⟨k, hk, hp⟩ := h
    obtain ⟨k, hk, hp, hb⟩ := key n ⟨k, hk, hk, hp⟩
    exact .inl ⟨k, hk, hp, hb, firstI_at hk hp hb⟩
  · refine .inr ⟨fun i hi => ?_, firstI_no fun i hi => ?_⟩
    all_goals
      cases hpi : p i with
      | false => rfl
      | true => exact absurd ⟨i, hi, hpi⟩ h
theorem firstI_range (n : Nat) (p : Nat → Bool) : -1 ≤ firstI n p ∧ firstI n p < n := by
  rcases firstI_cases n p with ⟨k, hk, _, _, e⟩ | ⟨_, e⟩ <;> rw [e] <;> omega
/-- A name's place; a function's place. -/
def slotI (l : List ByteArray) (s : ByteArray) : Int := firstI l.length fun i => s.toList == (l.getD i ByteArray.empty).toList
def findI (l : List SC) (s : ByteArray) : Int := firstI l.length fun i => decide (0 < i) && ((l.getD i default).name.toList == s.toList)
/-- An expression's own instruction. -/
def insE (all : List SC) (sc : SC) (o n : Int) (s : ByteArray) : VI :=
  if o = 1 then ⟨1, 0, n⟩
  else if o = 2 then ⟨2, slotI sc.vars s, 0⟩
  else if o = 3 then ⟨25, 0, 0⟩
  else if o = 4 then ⟨23, slotI sc.arrays s, 0⟩
  else if o = 5 then ⟨17, findI all s, 0⟩
  else ⟨wrap64 (wrap64 (o - 6) + 4), 0, 0⟩
mutual
def ET.code (all : List SC) (sc : SC) : ET → List VI
  | .mk o n s l => ET.codeL all sc l ++ [insE all sc o n s]
def ET.codeL (all : List SC) (sc : SC) : List ET → List VI
  | [] => []
  | e :: r => ET.code all sc e ++ ET.codeL all sc r
end
/-- Is a name that of a secret? -/
def secretB (s : ByteArray) : Bool := decide (0 < s.size) && (decide (65 ≤ byteAt s 0) && decide (byteAt s 0 ≤ 90))
/-- The last instruction of a statement that is no branch. -/
def insS (sc : SC) (o n : Int) (s : ByteArray) : VI :=
  if o = 1 then ⟨3, slotI sc.vars s, 0⟩
  else if o = 2 then ⟨24, slotI sc.arrays s, 0⟩
  else if o = 3 then ⟨22, slotI sc.arrays s, n⟩
  else if o = 4 then ⟨21, slotI sc.vars s, if secretB s then 1 else 0⟩
  else ⟨if o = 5 then 19 else if o = 6 then 20 else if o = 9 then 18 else 0, 0, 0⟩
mutual
/-- A statement's instructions where its first one stands at a place. -/
def ST.code (all : List SC) (sc : SC) : ST → Nat → List VI
  | .mk o n s l b e, at_ =>
    let x := ET.codeL all sc l
    if o = 7 ∨ o = 8 then
      let bc := ST.codeL all sc b (at_ + x.length + 1)
      let j := at_ + x.length + 1 + bc.length
      if o = 7 then
        let ec := ST.codeL all sc e (j + 1)
        x ++ [⟨16, (j + 1 : Nat), 0⟩] ++ bc ++ [⟨15, (j + 1 + ec.length : Nat), 0⟩] ++ ec
      else x ++ [⟨16, (j + 1 : Nat), 0⟩] ++ bc ++ [⟨15, (at_ : Nat), 0⟩]
    else x ++ [insS sc o n s]
def ST.codeL (all : List SC) (sc : SC) : List ST → Nat → List VI
  | [], _ => []
  | s :: r, at_ => ST.code all sc s at_ ++ ST.codeL all sc r (at_ + (ST.code all sc s at_).length)
end
theorem ET.codeL_append (all : List SC) (sc : SC) (l r : List ET) : ET.codeL all sc (l ++ r) = ET.codeL all sc l ++ ET.codeL all sc r := by
  induction l with
  | nil => rfl
  | cons e l ih => simp only [List.cons_append, ET.codeL, ih, List.append_assoc]
theorem ST.codeL_append (all : List SC) (sc : SC) (l r : List ST) : ∀ at_, ST.codeL all sc (l ++ r) at_ = ST.codeL all sc l at_ ++ ST.codeL all sc r (at_ + (ST.codeL all sc l at_).length) := by
  induction l with
  | nil => intro at_; rfl
  | cons e l ih => intro at_; simp only [List.cons_append, ST.codeL, ih, List.append_assoc, List.length_append, Nat.add_assoc]
theorem ET.codeL_take (all : List SC) (sc : SC) (l : List ET) (k : Nat) (h : k < l.length) : ET.codeL all sc (l.take (k + 1)) = ET.codeL all sc (l.take k) ++ (l.getD k default).code all sc := by
  rw [take_next l default k h, ET.codeL_append]; simp [ET.codeL]
theorem ST.codeL_take (all : List SC) (sc : SC) (l : List ST) (at_ k : Nat) (h : k < l.length) : ST.codeL all sc (l.take (k + 1)) at_ = ST.codeL all sc (l.take k) at_ ++ (l.getD k default).code all sc (at_ + (ST.codeL all sc (l.take k) at_).length) := by
  rw [take_next l default k h, ST.codeL_append]; simp [ST.codeL]
theorem ET.code_parts (all : List SC) (sc : SC) (e : ET) : e.code all sc = ET.codeL all sc e.parts ++ [insE all sc e.op e.num e.name] := by cases e; rfl
/- As many instructions as expressions; no more than two for each statement beside. -/
mutual
theorem ET.code_len (all : List SC) (sc : SC) : ∀ (e : ET) (d : Int), (e.code all sc).length = (e.nodes d).length
  | .mk o n s l, d => by simp only [ET.code, ET.nodes, List.length_append, List.length_cons, List.length_nil]; rw [ET.codeL_len all sc l]
theorem ET.codeL_len (all : List SC) (sc : SC) : ∀ (l : List ET) (d : Int), (ET.codeL all sc l).length = (ET.nodesL l d).length
  | [], _ => rfl
  | e :: r, d => by simp only [ET.codeL, ET.nodesL, List.length_append]; rw [ET.code_len all sc e d, ET.codeL_len all sc r d]
end
mutual
theorem ST.code_len (all : List SC) (sc : SC) : ∀ (e : ST) (at_ : Nat) (d : Int), (e.code all sc at_).length ≤ 2 * (e.nodes d).length
  | .mk o n s l b e, at_, d => by
    have h1 := ET.codeL_len all sc l (wrap64 (d + 1))
    have h2 := ST.codeL_len all sc b (at_ + (ET.codeL all sc l).length + 1) (wrap64 (d + 1))
    have h3 := ST.codeL_len all sc e (at_ + (ET.codeL all sc l).length + 1 + (ST.codeL all sc b (at_ + (ET.codeL all sc l).length + 1)).length + 1) (wrap64 (d + 1))
    simp only [ST.code, ST.nodes, List.length_cons, List.length_append]
    split
    · split
      · simp only [List.length_append, List.length_cons, List.length_nil]; omega
      · simp only [List.length_append, List.length_cons, List.length_nil]; omega
    · simp only [List.length_append, List.length_cons, List.length_nil]; omega
theorem ST.codeL_len (all : List SC) (sc : SC) : ∀ (l : List ST) (at_ : Nat) (d : Int), (ST.codeL all sc l at_).length ≤ 2 * (ST.nodesL l d).length
  | [], _, _ => by simp [ST.codeL]
  | e :: r, at_, d => by
    have h1 := ST.code_len all sc e at_ d
    have h2 := ST.codeL_len all sc r (at_ + (e.code all sc at_).length) d
    simp only [ST.codeL, ST.nodesL, List.length_append]; omega
end

/- In memory. -/
def insC (i : VI) : List Value := [.int .i64 i.op, .int .i64 i.a, .int .i64 i.n]
def insR (l : List VI) : List Value := l.flatMap insC
theorem insR_append (l r : List VI) : insR (l ++ r) = insR l ++ insR r := by simp [insR]
theorem insR_length (l : List VI) : (insR l).length = l.length * 3 := by
  induction l with
  | nil => rfl
  | cons x l ih => simp [insR] at ih ⊢; rw [ih]; simp [insC]; omega
theorem insR_at (l : List VI) (i j : Nat) (hi : i < l.length) (hj : j < 3) : (insR l)[i * 3 + j]? = (insC (l.getD i default))[j]? := by
  induction l generalizing i with
  | nil => simp at hi
  | cons x l ih =>
    have e : insR (x :: l) = insC x ++ insR l := by simp [insR]
    rw [e]
    cases i with
    | zero => rw [List.getElem?_append_left (by show _ < 3; omega)]; simp
    | succ i =>
      rw [List.getElem?_append_right (by show 3 ≤ _; omega)]
      have : (i + 1) * 3 + j - (insC x).length = i * 3 + j := by show (i + 1) * 3 + j - 3 = _; omega
      rw [this, ih i (by simpa using hi)]; simp
/-- A slice of scopes in memory. -/
inductive CSl (w : World) : Value → List SC → Prop
  | mk (a : Option Addr) (b off cap : Nat) (l : List SC) (f g : Nat → Value) : At a l.length b off → l.length ≤ cap → cap ≤ maxLen →
      (∀ i, i < l.length → w.cell? ⟨b, off + i * 4, .none⟩ = .some (.string (l.getD i default).name) ∧ w.cell? ⟨b, off + i * 4 + 1, .none⟩ = .some (.int .i64 (l.getD i default).params) ∧ w.cell? ⟨b, off + i * 4 + 2, .none⟩ = .some (f i) ∧ w.cell? ⟨b, off + i * 4 + 3, .none⟩ = .some (g i)) →
      (∀ i, i < l.length → TSl w (f i) (l.getD i default).vars) → (∀ i, i < l.length → TSl w (g i) (l.getD i default).arrays) → CSl w (.slice a l.length cap) l
theorem CSl.stay {w w' : World} (hb : Below w.heap.size w w') {v : Value} {l : List SC} (h : CSl w v l) : CSl w' v l := by
  cases h with
  | mk a b off cap l f g ha hc hm hcell h1 h2 =>
    exact .mk a b off cap l f g ha hc hm (fun i hi => by
      have hlt : b < w.heap.size := lt_of_cell (hcell i hi).1
      exact ⟨(hb.cell hlt).trans (hcell i hi).1, (hb.cell hlt).trans (hcell i hi).2.1, (hb.cell hlt).trans (hcell i hi).2.2.1, (hb.cell hlt).trans (hcell i hi).2.2.2⟩) (fun i hi => (h1 i hi).stay hb) (fun i hi => (h2 i hi).stay hb)
theorem cell_of_heap {W : World} {b : Nat} {cs : Array Value} {t : TypeId} {fr : Nat × Nat} (h : W.heap[b]? = some (.cells cs t fr)) (j : Nat) : W.cell? ⟨b, j, none⟩ = cs[j]? := by
  simp [World.cell?, h]
theorem free_of_heap {W : World} {B : Nat} {cs : Array Value} {t : TypeId} (h : W.heap[B]? = some (.cells cs t (0, 0))) (j : Nat) : W.frozen? ⟨B, j, none⟩ = false := by simp [World.frozen?, h]
theorem heap_set {W : World} {B : Nat} {cs : Array Value} {t : TypeId} (h : W.heap[B]? = some (.cells cs t (0, 0))) (j : Nat) (v : Value) : (W.setCell ⟨B, j, none⟩ v).heap[B]? = some (.cells (cs.setIfInBounds j v) t (0, 0)) := by
  obtain ⟨hlt, hk⟩ := Array.getElem?_eq_some_iff.1 h
  show (W.heap.modify B _)[B]? = _
  rw [Array.getElem?_eq_getElem (by rw [Array.size_modify]; exact hlt), Array.getElem_modify_self, hk]
  rfl
theorem grown_set (W : World) (b j : Nat) (v : Value) : W.grownBy (W.setCell ⟨b, j, none⟩ v) (some b) :=
  ⟨rfl, rfl, rfl, by simp [World.setCell], fun k _ hk => Below.heap_setCell _ _ _ k (fun e => hk (by rw [e]))⟩
theorem grown_of_below {w w' : World} (h : Below w.heap.size w w') : w.grownBy w' none := ⟨h.os, h.tape, h.output, h.size, fun k hk _ => h.block k hk⟩

/-- What the writer of a function's code may turn: her own box, rows of instructions; new blocks; nothing below a mark. -/
structure Wk (n0 wb : Nat) (W W' : World) : Prop where
  below : Below n0 W W'
  kept : ∀ k o, W.heap[k]? = some o → k ≠ wb → (∀ cs fr, o ≠ .cells cs 46 fr) → W'.heap[k]? = some o
theorem Wk.refl (n0 wb : Nat) (W : World) : Wk n0 wb W W := ⟨Below.refl _ _, fun _ _ h _ _ => h⟩
theorem Wk.trans {n0 wb : Nat} {a b c : World} (h : Wk n0 wb a b) (k : Wk n0 wb b c) : Wk n0 wb a c :=
  ⟨h.below.trans k.below, fun i o hi hne ho => k.kept i o (h.kept i o hi hne ho) hne ho⟩
theorem Wk.of_below {n0 wb : Nat} {a b : World} (hn : n0 ≤ a.heap.size) (h : Below a.heap.size a b) : Wk n0 wb a b :=
  ⟨h.mono hn, fun k o hk _ _ => (h.block k (lt_of_heap hk)).trans hk⟩
theorem Wk.size {n0 wb : Nat} {a b : World} (h : Wk n0 wb a b) : a.heap.size ≤ b.heap.size := h.below.size
/-- The writer in memory: her scope, all scopes, the instructions so far. -/
structure Wr (n0 : Nat) (W : World) (wb : Nat) (sc : SC) (vv av all : Value) (l : List VI) : Prop where
  ge : n0 ≤ wb
  box : ∃ lv, W.heap[wb]? = some (.cells #[.string sc.name, .int .i64 sc.params, vv, av, all, lv] 64 (0, 0)) ∧ W.ownsRow n0 46 3 lv l.length (insR l)
theorem Wr.lt {n0 : Nat} {W : World} {wb : Nat} {sc : SC} {vv av all : Value} {l : List VI} (h : Wr n0 W wb sc vv av all l) : wb < W.heap.size := by
  obtain ⟨_, lv, hb, _⟩ := h; exact lt_of_heap hb
theorem Wr.stay {n0 : Nat} {W W' : World} {wb : Nat} {sc : SC} {vv av all : Value} {l : List VI} (h : Wr n0 W wb sc vv av all l) (hb : Below W.heap.size W W') : Wr n0 W' wb sc vv av all l := by
  obtain ⟨hg, lv, hk, ho⟩ := h
  exact ⟨hg, lv, (hb.block _ (lt_of_heap hk)).trans hk, ho.kept (grown_of_below hb) (by cases lv.ownBlock <;> simp)⟩
theorem infoI : (Tryz.prog.info? 46).map (fun i => (i.zero, i.size, i.bytes)) = some (some (.agg #[.int .i64 0, .int .i64 0, .int .i64 0]), 3, 24) := by kernel_rfl
/-- A row of one's own lies in no box of another type. -/
theorem own_ne_box {w : World} {base : Nat} {e : TypeId} {size n : Nat} {v : Value} {xs : List Value} (h : w.ownsRow base e size v n xs) {b : Nat} {cs : Array Value} {t : TypeId} {fr : Nat × Nat} (hb : w.heap[b]? = some (.cells cs t fr)) (ht : t ≠ e) : some b ≠ v.ownBlock := by
  obtain ⟨_, ⟨rfl, _⟩ | ⟨g, cap, cur, rfl, _, hg, _⟩⟩ := h
  · simp [Value.ownBlock]
  · simp only [Value.ownBlock]
    intro e'
    cases e'
    rw [hg] at hb
    injection hb with hb
    injection hb with _ h2 _
    exact ht h2.symm
theorem own_ge {w : World} {base : Nat} {e : TypeId} {size n : Nat} {v : Value} {xs : List Value} (h : w.ownsRow base e size v n xs) {r : Nat} (hr : v.ownBlock = some r) : base ≤ r := (h.lt r hr).1
theorem ownsRow_succ' {W : World} {base : Nat} {e : TypeId} {size : Nat} {v : Value} {k : Nat} {xs : List Value} (h : W.ownsRow base e size v (k + 1) xs) : ∃ g cap, v = .slice (some ⟨g, 0, none⟩) (k + 1) cap := by
  obtain ⟨_, ⟨_, h0⟩ | ⟨g, cap, _, rfl, _⟩⟩ := h
  · omega
  · exact ⟨g, cap, rfl⟩
theorem own_shape {W : World} {base : Nat} {e : TypeId} {size : Nat} {v : Value} {k : Nat} {xs : List Value} (h : W.ownsRow base e size v k xs) : ∃ a cap, v = .slice a k cap := by
  obtain ⟨_, ⟨rfl, h0⟩ | ⟨g, cap, _, rfl, _⟩⟩ := h
  · subst h0; exact ⟨_, _, rfl⟩
  · exact ⟨_, _, rfl⟩
theorem own_cell {w : World} {base n : Nat} {e : TypeId} {size : Nat} {g cap : Nat} {xs : List Value} (h : w.ownsRow base e size (.slice (some ⟨g, 0, none⟩) n cap) n xs) (i : Nat) (hi : i < n * size) : w.cell? ⟨g, i, none⟩ = xs[i]? := by
  obtain ⟨hl, ⟨h0, _⟩ | ⟨g', cap', cur, hv, _, hg, hn, hm, hc, ht⟩⟩ := h
  · cases h0
  · cases hv
    simp [World.cell?, hg]
    rw [← ht, List.getElem?_take, if_pos hi]; simp
end Go.Proofs.YthjjcmmonjajhaaGreatDoor
namespace Go.Proofs.YthjjcmmonjajhaaGreatDoor
open Go.RowKit Go.Sort
set_option linter.unusedVariables false

theorem Wk.put {n0 wb j : Nat} {W w2 : World} {o : Obj} {row : Option Nat} {u : Value} (hn : n0 ≤ W.heap.size) (hwb : n0 ≤ wb) (hg : (W.alloc o).grownBy w2 row) (hrow : ∀ k, row = some k → n0 ≤ k ∧ ∃ cs fr, W.heap[k]? = some (.cells cs 46 fr)) : Wk n0 wb W (w2.setCell ⟨wb, j, none⟩ u) := by
  have hs := hg.size
  rw [World.size_alloc] at hs
  refine ⟨(((Below.refl n0 W).alloc hn o).grown hg (by rw [World.size_alloc]; omega) (fun k hk => (hrow k hk).1)).setCell (p := ⟨wb, j, none⟩) hwb u, fun k o' hk hne ho' => ?_⟩
  have hlt := lt_of_heap hk
  rw [Below.heap_setCell _ _ _ k hne, hg.block k (by rw [World.size_alloc]; omega) (fun e => ?_), Below.heap_alloc W o k hlt, hk]
  obtain ⟨_, cs, fr, h⟩ := hrow k e.symm
  rw [hk] at h
  exact ho' cs fr (Option.some.inj h)
theorem own_row_ins {w : World} {base size n : Nat} {e : TypeId} {v : Value} {xs : List Value} (h : w.ownsRow base e size v n xs) : ∀ k, v.ownBlock = some k → base ≤ k ∧ ∃ cs fr, w.heap[k]? = some (.cells cs e fr) := by
  intro k hk
  obtain ⟨_, ⟨rfl, _⟩ | ⟨g, cap, cur, rfl, hb, hg, _⟩⟩ := h
  · simp [Value.ownBlock] at hk
  · simp only [Value.ownBlock, Option.some.injEq] at hk
    subst hk
    exact ⟨hb, cur, (0, 0), hg⟩
set_option maxHeartbeats 4000000 in
set_option maxRecDepth 1000000 in
theorem put_r (n0 wb : Nat) (sc : SC) (vv av all : Value) (l : List VI) (o a n : Int) (W : World) (hw : Wr n0 W wb sc vv av all l) (hl : l.length ≤ 4194304) :
    Calls Tryz.prog 13 #[.pointer (some ⟨wb, 0, none⟩), .int .i64 o, .int .i64 a, .int .i64 n] W fun e w' => e = .returned (.int .i64 l.length) ∧ Wk n0 wb W w' ∧ Wr n0 w' wb sc vv av all (l ++ [⟨o, a, n⟩]) := by
  obtain ⟨i0, hi, hz0, hz1, hz2⟩ := info_parts infoI
  obtain ⟨hge, lv, hb, ho⟩ := hw
  have hlt := lt_of_heap hb
  have c5 : W.cell? ⟨wb, 5, none⟩ = some lv := cell_of_heap hb 5
  have HO := Lib.hid ho
  have HBX := Lib.hid hb
  have HL := Lib.hid hl
  obtain ⟨la, lc, rfl⟩ := own_shape ho
  have hne := own_ne_box ho hb (by decide)
  have HC1 : Hid (∀ j u, (insC ⟨o, a, n⟩)[j]? = some u → (W.alloc (.cells #[.int .i64 o, .int .i64 a, .int .i64 n] 46)).cell? ((⟨W.heap.size, 0, none⟩ : Addr).add j) = some u) := fun j u h => by
    have e : (⟨W.heap.size, 0, none⟩ : Addr).add j = ⟨W.heap.size, j, none⟩ := by unfold Addr.add; split <;> simp_all
    rw [e, cell_of_heap (heap_alloc_new W _)]
    simpa [insC] using h
  have HNE := Lib.hid hne
  clear ho hb hne
  go_enter Tryz.func13, Tryz.ntmps13
  go_wp2_with (at_builtin; refine wpList_append_own _ rfl _ _ 39 rfl n0 46 i0 (.agg #[.int .i64 0, .int .i64 0, .int .i64 0]) 3 24 Tryz.underlying39 hi hz0 hz1 hz2 rfl (by decide) _ _ _ rfl (HO.out.alloc _) ⟨W.heap.size, 0, none⟩ 1 1 (insC ⟨o, a, n⟩) rfl rfl HC1.out (by intro u hu; simp [insC] at hu; rcases hu with rfl | rfl | rfl <;> rfl) (by have := HL.out; unfold maxLen; omega) (by have := HL.out; omega) (by rw [World.size_alloc]; omega) ?_; intro v' w2 hown' hgrow hx; clear hx; obtain ⟨g', cap', rfl⟩ := ownsRow_succ' hown'; have HB2 := Lib.hid ((hgrow.block wb (by rw [World.size_alloc]; omega) HNE.out).trans ((Below.heap_alloc W _ wb hlt).trans HBX.out)); have HG := Lib.hid hgrow; have HO2 := Lib.hid hown'; have d0 : w2.cell? ⟨wb, 5, none⟩ = some (.slice la l.length lc) := cell_of_heap HB2.out 5; have d5 : w2.frozen? ⟨wb, 5, none⟩ = false := free_of_heap HB2.out 5; clear hown' hgrow)
  go_ret
  refine ⟨by go_num, Wk.put (by omega) hge HG.out (own_row_ins HO.out), hge, _, heap_set HB2.out 5 _, ?_⟩
  have e : insR [⟨o, a, n⟩] = insC ⟨o, a, n⟩ := by simp [insR]
  rw [insR_append, e, List.length_append]
  exact HO2.out.kept (grown_set w2 _ 5 _) (.inr (fun e => own_ne_box HO2.out HB2.out (by decide) e.symm))

theorem idx_ne {w : World} {base n : Nat} {e : TypeId} {size : Nat} {v : Value} {xs : List Value} (h : w.ownsRow base e size v n xs) (hn : 0 < n) : ∃ g cap, v = .slice (some ⟨g, 0, none⟩) n cap ∧ n ≤ cap ∧ cap ≤ 9223372036854775807 ∧ base ≤ g ∧ ∃ cur, w.heap[g]? = some (.cells cur e (0, 0)) ∧ cur.size = cap * size ∧ cur.toList.take (n * size) = xs := by
  obtain ⟨_, ⟨_, h0⟩ | ⟨g, cap, cur, rfl, h1, h2, h3, h4, h5, h6⟩⟩ := h
  · omega
  · exact ⟨g, cap, rfl, h3, h4, h1, cur, h2, h5, h6⟩
/-- An instruction's target, set. -/
def landV (l : List VI) (k : Nat) : List VI := l.set k ⟨(l.getD k default).op, l.length, (l.getD k default).n⟩
theorem landV_length (l : List VI) (k : Nat) : (landV l k).length = l.length := by simp [landV]
theorem insR_set (l : List VI) (k : Nat) (hk : k < l.length) (a : Int) : (insR l).set (k * 3 + 1) (.int .i64 a) = insR (l.set k ⟨(l.getD k default).op, a, (l.getD k default).n⟩) := by
  induction l generalizing k with
  | nil => simp at hk
  | cons x l ih =>
    have e : ∀ y : VI, ∀ r, insR (y :: r) = insC y ++ insR r := fun y r => by simp [insR]
    cases k with
    | zero => rw [e, List.set_cons_zero, e]; simp [insC]
    | succ k =>
      rw [e, List.set_cons_succ, e]
      have h1 := ih k (by simpa using hk)
      rw [List.set_append_right _ _ (by show 3 ≤ _; omega)]
      have : (k + 1) * 3 + 1 - (insC x).length = k * 3 + 1 := by show (k + 1) * 3 + 1 - 3 = _; omega
      rw [this, h1]; simp
theorem own_set {w : World} {base n : Nat} {e : TypeId} {size g cap : Nat} {xs : List Value} (h : w.ownsRow base e size (.slice (some ⟨g, 0, none⟩) n cap) n xs) (j : Nat) (v : Value) : (w.setCell ⟨g, j, none⟩ v).ownsRow base e size (.slice (some ⟨g, 0, none⟩) n cap) n (xs.set j v) := by
  obtain ⟨hl, ⟨h0, _⟩ | ⟨g', cap', cur, hv, h1, h2, h3, h4, h5, h6⟩⟩ := h
  · cases h0
  · cases hv
    refine ⟨by simpa using hl, .inr ⟨g, cap, cur.setIfInBounds j v, rfl, h1, heap_set h2 j v, h3, h4, by simpa using h5, ?_⟩⟩
    rw [← h6, Array.toList_setIfInBounds, List.take_set]

end Go.Proofs.YthjjcmmonjajhaaGreatDoor
namespace Go.Proofs.YthjjcmmonjajhaaGreatDoor
open Go.RowKit Go.Sort
set_option linter.unusedVariables false

set_option maxHeartbeats 4000000 in
set_option maxRecDepth 1000000 in
theorem lands_r (n0 wb : Nat) (sc : SC) (vv av all : Value) (l : List VI) (k : Nat) (hk : k < l.length) (W : World) (hw : Wr n0 W wb sc vv av all l) (hn : n0 ≤ W.heap.size) :
    Calls Tryz.prog 58 #[.pointer (some ⟨wb, 0, none⟩), .int .i64 k] W fun e w' => e = .returned (.tuple #[]) ∧ Wk n0 wb W w' ∧ Wr n0 w' wb sc vv av all (landV l k) := by
  obtain ⟨hge, lv, hb, ho⟩ := hw
  have hlt := lt_of_heap hb
  obtain ⟨g, cap, rfl, hc1, hc2, hg, cur, hh, hsz, htk⟩ := idx_ne ho (by omega)
  have HC5 : Hid (W.cell? ⟨wb, 5, none⟩ = some (.slice (some ⟨g, 0, none⟩) l.length cap)) := cell_of_heap hb 5
  have HO := Lib.hid ho
  have HBX := Lib.hid hb
  have hD0 : Hid (W.cell? ⟨g, k * 3 + 1, none⟩ = some (.int .i64 (l.getD k default).a)) := (own_cell ho (k * 3 + 1) (by omega)).trans ((insR_at l k 1 hk (by omega)).trans rfl)
  have hD1 : Hid (W.frozen? ⟨g, k * 3 + 1, none⟩ = false) := free_of_heap hh _
  have HH := Lib.hid hh
  have HNE : Hid (wb ≠ g) := fun e => own_ne_box ho hb (by decide) (by rw [e]; rfl)
  clear ho hb hh hsz htk
  go_enter Tryz.func58, Tryz.ntmps58
  go_wp2_with fail
  refine region_flow rfl 12 rfl (by decide +kernel) [4, 5, 6, 7, 8, 9, 10, 11, 12, 13, 14, 15] (by decide +kernel) rfl (by decide) (by simp) (fun w w' => Below w.heap.size w w') (fun w => Below W.heap.size W w)
    (fun j v _ => v = ([.pointer (some ⟨wb, 0, none⟩), .pointer (some ⟨wb, 0, none⟩), .pointer (some ⟨wb, 5, none⟩), .slice (some ⟨g, 0, none⟩) l.length cap, .int .i64 (k : Int), .pointer (some ⟨wb, 0, none⟩), .pointer (some ⟨wb, 0, none⟩), .pointer (some ⟨wb, 5, none⟩), .slice (some ⟨g, 0, none⟩) l.length cap, .int .i64 l.length, .pointer (some ⟨g, k * 3, none⟩), .pointer (some ⟨g, k * 3 + 1, none⟩)] : List Value).getD j undef) (fun _ _ _ _ _ h => h) ?hr0 ?hs0 ?hl0
  case hs0 =>
    intro ix hix a wx hR hout hdep
    have hix' : ix = 0 ∨ ix = 1 ∨ ix = 2 ∨ ix = 3 ∨ ix = 4 ∨ ix = 5 ∨ ix = 6 ∨ ix = 7 ∨ ix = 8 ∨ ix = 9 ∨ ix = 10 ∨ ix = 11 := by omega
    rcases hix' with rfl | rfl | rfl | rfl | rfl | rfl | rfl | rfl | rfl | rfl | rfl | rfl
    · have HR := Lib.hid hR
      clear hR
      have e0 := hout 0 (by decide)
      clear hout hdep
      refine op_list (by rfl) ?_
      go_wp2
      exact withK_intro ⟨_, rfl, Below.refl _ _, HR.out, rfl⟩
    · have HR := Lib.hid hR
      clear hR
      have e4 : a.tmps[4]? = some (.pointer (some ⟨wb, 0, none⟩)) := flow_dep hdep 0 4 (by kernel_rfl) rfl
      clear hout hdep
      refine op_list (by rfl) ?_
      go_wp2
      exact withK_intro ⟨_, rfl, Below.refl _ _, HR.out, rfl⟩
    · have HR := Lib.hid hR
      clear hR
      have e5 : a.tmps[5]? = some (.pointer (some ⟨wb, 0, none⟩)) := flow_dep hdep 1 5 (by kernel_rfl) rfl
      clear hout hdep
      refine op_list (by rfl) ?_
      go_wp2
      exact withK_intro ⟨_, rfl, Below.refl _ _, HR.out, rfl⟩
    · have HR := Lib.hid hR
      clear hR
      have e6 : a.tmps[6]? = some (.pointer (some ⟨wb, 5, none⟩)) := flow_dep hdep 2 6 (by kernel_rfl) rfl
      have c5 := (HR.out.cell (p := ⟨wb, 5, none⟩) (lt_of_cell HC5.out)).trans HC5.out
      clear hout hdep
      refine op_list (by rfl) ?_
      go_wp2
      exact withK_intro ⟨_, rfl, Below.refl _ _, HR.out, rfl⟩
    · have HR := Lib.hid hR
      clear hR
      have e1 := hout 1 (by decide)
      clear hout hdep
      refine op_list (by rfl) ?_
      go_wp2
      exact withK_intro ⟨_, rfl, Below.refl _ _, HR.out, rfl⟩
    · have HR := Lib.hid hR
      clear hR
      have e0 := hout 0 (by decide)
      clear hout hdep
      refine op_list (by rfl) ?_
      go_wp2
      exact withK_intro ⟨_, rfl, Below.refl _ _, HR.out, rfl⟩
    · have HR := Lib.hid hR
      clear hR
      have e9 : a.tmps[9]? = some (.pointer (some ⟨wb, 0, none⟩)) := flow_dep hdep 5 9 (by kernel_rfl) rfl
      clear hout hdep
      refine op_list (by rfl) ?_
      go_wp2
      exact withK_intro ⟨_, rfl, Below.refl _ _, HR.out, rfl⟩
    · have HR := Lib.hid hR
      clear hR
      have e10 : a.tmps[10]? = some (.pointer (some ⟨wb, 0, none⟩)) := flow_dep hdep 6 10 (by kernel_rfl) rfl
      clear hout hdep
      refine op_list (by rfl) ?_
      go_wp2
      exact withK_intro ⟨_, rfl, Below.refl _ _, HR.out, rfl⟩
    · have HR := Lib.hid hR
      clear hR
      have e11 : a.tmps[11]? = some (.pointer (some ⟨wb, 5, none⟩)) := flow_dep hdep 7 11 (by kernel_rfl) rfl
      have c5 := (HR.out.cell (p := ⟨wb, 5, none⟩) (lt_of_cell HC5.out)).trans HC5.out
      clear hout hdep
      refine op_list (by rfl) ?_
      go_wp2
      exact withK_intro ⟨_, rfl, Below.refl _ _, HR.out, rfl⟩
    · have HR := Lib.hid hR
      clear hR
      have e12 : a.tmps[12]? = some (.slice (some ⟨g, 0, none⟩) l.length cap) := flow_dep hdep 8 12 (by kernel_rfl) rfl
      clear hout hdep
      refine op_list (by rfl) ?_
      go_wp2
      exact withK_intro ⟨_, rfl, Below.refl _ _, HR.out, rfl⟩
    · have HR := Lib.hid hR
      clear hR
      have e7 : a.tmps[7]? = some (.slice (some ⟨g, 0, none⟩) l.length cap) := flow_dep hdep 3 7 (by kernel_rfl) rfl
      have e8 : a.tmps[8]? = some (.int .i64 (k : Int)) := flow_dep hdep 4 8 (by kernel_rfl) rfl
      clear hout hdep
      refine op_list (by rfl) ?_
      go_wp2
      exact withK_intro ⟨_, rfl, Below.refl _ _, HR.out, rfl⟩
    · have HR := Lib.hid hR
      clear hR
      have e14 : a.tmps[14]? = some (.pointer (some ⟨g, k * 3, none⟩)) := flow_dep hdep 10 14 (by kernel_rfl) rfl
      clear hout hdep
      refine op_list (by rfl) ?_
      go_wp2
      exact withK_intro ⟨_, rfl, Below.refl _ _, HR.out, rfl⟩
  case hl0 =>
    intro vs wx hR hφ
    have HR := Lib.hid hR
    clear hR
    rw [fill_congr _ [4, 5, 6, 7, 8, 9, 10, 11, 12, 13, 14, 15] vs (fun j => ([.pointer (some ⟨wb, 0, none⟩), .pointer (some ⟨wb, 0, none⟩), .pointer (some ⟨wb, 5, none⟩), .slice (some ⟨g, 0, none⟩) l.length cap, .int .i64 (k : Int), .pointer (some ⟨wb, 0, none⟩), .pointer (some ⟨wb, 0, none⟩), .pointer (some ⟨wb, 5, none⟩), .slice (some ⟨g, 0, none⟩) l.length cap, .int .i64 l.length, .pointer (some ⟨g, k * 3, none⟩), .pointer (some ⟨g, k * 3 + 1, none⟩)] : List Value).getD j undef) (fun j hj => hφ j hj)]
    clear hφ vs
    refine op_list (by rfl) ?_
    simp only [fill, fillA, List.getD_cons_zero, List.getD_cons_succ, Nat.reduceAdd]
    have d0 := (HR.out.cell (p := ⟨g, k * 3 + 1, none⟩) (lt_of_cell hD0.out)).trans hD0.out
    have d1 := (HR.out.frozen (p := ⟨g, k * 3 + 1, none⟩) (lt_of_cell hD0.out)).trans hD1.out
    go_wp2_with fail
    refine withK_intro ?_
    go_wp2
    go_end0
    have hbx := (HR.out.block wb hlt).trans HBX.out
    have hox := HO.out.kept (grown_of_below HR.out) (by simp [Value.ownBlock])
    have hkk := hk
    refine ⟨rfl, (Wk.of_below hn HR.out).trans ⟨(Below.refl _ _).setCell (p := ⟨g, k * 3 + 1, none⟩) hg _, fun i o hi hne ho' => ?_⟩, hge, .slice (some ⟨g, 0, none⟩) l.length cap, ?_, ?_⟩
    · rw [Below.heap_setCell _ _ _ i (fun e => ?_)]
      · exact hi
      · have hgx := (HR.out.block g (lt_of_heap HH.out)).trans HH.out
        have e' : i = g := e
        rw [e', hgx] at hi
        exact ho' _ _ (Option.some.inj hi).symm
    · rw [Below.heap_setCell _ _ _ wb HNE.out]; exact hbx
    · have := own_set hox (k * 3 + 1) (.int .i64 l.length)
      rw [insR_set l k hkk] at this
      rw [landV_length]; exact this
  case hr0 => exact (Below.refl _ _).drew
end Go.Proofs.YthjjcmmonjajhaaGreatDoor
namespace Go.Proofs.YthjjcmmonjajhaaGreatDoor
open Go.RowKit Go.Sort
set_option linter.unusedVariables false

set_option maxHeartbeats 2000000 in
set_option maxRecDepth 1000000 in
theorem index_i (v : Value) (l : List ByteArray) (s : ByteArray) (w : World) (h : TSl w v l) (q : Int) (hq : slotI l s = q) :
    Calls Tryz.prog 57 #[v, .string s] w fun e w' => e = .returned (.int .i64 q) ∧ w' = w := by
  cases h with
  | mk a b off cap l ha hc hm hcell =>
  have HA := Lib.hid ha
  have HI := Lib.hid hcell
  have HQ := Lib.hid hq
  have hm1 : cap ≤ 9223372036854775807 := hm
  clear ha hcell hq hm
  go_enter Tryz.func57, Tryz.ntmps57
  go_wp2
  go_loopw [8] (fun i wr => ∃ k : Nat, i = .int .i64 k ∧ k ≤ l.length ∧ wr = w ∧ Hid (∀ i, i < k → (s.toList == (l.getD i ByteArray.empty).toList) = false)) (fun i _ => l.length - (intOf i).toNat)
  case atStart => exact ⟨0, rfl, by omega, rfl, fun i hi => absurd hi (by omega)⟩
  case round =>
    obtain ⟨k, rfl, hk, rfl, HA'⟩ := hrel
    by_cases hlt : k < l.length
    · obtain rfl := HA.out (by omega)
      have hcell := HI.out k hlt
      obtain ⟨x, hx⟩ : ∃ x, l.getD k ByteArray.empty = x := ⟨_, rfl⟩
      rw [hx] at hcell
      obtain ⟨t, ht⟩ : ∃ t, (s.toList == x.toList) = t := ⟨_, rfl⟩
      have HX := Lib.hid hx
      have HT := Lib.hid ht
      clear hx
      cases t with
      | true =>
        go_wp2
        go_ret
        obtain rfl : (k : Int) = q := by rw [← HQ.out]; exact (firstI_at hlt (by rw [HX.out]; exact HT.out) HA'.out).symm
        exact ⟨rfl, rfl⟩
      | false =>
        go_wp2
        go_roundw
        case rel =>
          refine ⟨k + 1, by go_num, by omega, trivial, fun i hi => ?_⟩
          rcases Nat.lt_or_ge i k with h | h
          · exact HA'.out i h
          · obtain rfl : i = k := by omega
            rw [HX.out]; exact HT.out
        case measure => simp [intOf]; omega
    · obtain rfl : k = l.length := by omega
      go_wp2
      go_ret
      obtain rfl : (-1 : Int) = q := by rw [← HQ.out]; exact (firstI_no HA'.out).symm
      exact ⟨rfl, rfl⟩
set_option maxHeartbeats 2000000 in
set_option maxRecDepth 1000000 in
theorem slot_r (v : Value) (l : List ByteArray) (s : ByteArray) (w : World) (h : TSl w v l) (q : Int) (hq : slotI l s = q) :
    Calls Tryz.prog 30 #[v, .string s] w fun e w' => e = .returned (.int .i64 q) ∧ w' = w := by
  have HH := Lib.hid h
  have HQ := Lib.hid hq
  clear h hq
  go_enter Tryz.func30, Tryz.ntmps30
  go_wp2_with (go_at_call 57; refine (index_i v l s _ HH.out _ HQ.out).mono ?_; rintro e w' ⟨rfl, rfl⟩)
  go_ret
  exact ⟨rfl, rfl⟩
theorem TSl.shapeT {w : World} {v : Value} {l : List ByteArray} (h : TSl w v l) : ∃ a n c, v = .slice a n c := by cases h; exact ⟨_, _, _, rfl⟩
set_option maxHeartbeats 4000000 in
set_option maxRecDepth 1000000 in
theorem find_r (v : Value) (l : List SC) (s : ByteArray) (w : World) (h : CSl w v l) (q : Int) (hq : findI l s = q) :
    Calls Tryz.prog 80 #[v, .string s] w fun e w' => e = .returned (.int .i64 q) ∧ Below w.heap.size w w' := by
  cases h with
  | mk a b off cap l f g ha hc hm hcell h1 h2 =>
  have HA := Lib.hid ha
  have HI := Lib.hid hcell
  have HQ := Lib.hid hq
  have hm1 : cap ≤ 9223372036854775807 := hm
  have HF := Lib.hid h1
  have HG := Lib.hid h2
  clear ha hcell hq hm h1 h2
  have HB := hb_start w
  go_enter Tryz.func80, Tryz.ntmps80
  go_wp2
  go_loopw [9] (fun i wr => ∃ k : Nat, i = .int .i64 k ∧ k ≤ l.length ∧ Hid (Below w.heap.size w wr) ∧ Hid (∀ i, i < k → (decide (0 < i) && ((l.getD i default).name.toList == s.toList)) = false)) (fun i _ => l.length - (intOf i).toNat)
  case atStart => exact ⟨0, rfl, by omega, HB, fun i hi => absurd hi (by omega)⟩
  case round =>
    clear HB
    obtain ⟨k, rfl, hk, HB, HA'⟩ := hrel
    by_cases hlt : k < l.length
    · obtain rfl := HA.out (by omega)
      obtain ⟨e0, e1, e2, e3⟩ := HI.out k hlt
      have hz : b < w.heap.size := lt_of_cell e0
      replace e0 := (HB.out.cell (p := ⟨b, off + k * 4, none⟩) hz).trans e0
      replace e1 := (HB.out.cell (p := ⟨b, off + k * 4 + 1, none⟩) hz).trans e1
      replace e2 := (HB.out.cell (p := ⟨b, off + k * 4 + 2, none⟩) hz).trans e2
      replace e3 := (HB.out.cell (p := ⟨b, off + k * 4 + 3, none⟩) hz).trans e3
      obtain ⟨x, hx⟩ : ∃ x, (l.getD k default).name = x := ⟨_, rfl⟩
      rw [hx] at e0
      generalize (l.getD k default).params = pv at e1
      have hf := (HF.out k hlt).shapeT
      have hg := (HG.out k hlt).shapeT
      generalize f k = fv at e2 hf
      generalize g k = gv at e3 hg
      obtain ⟨fa, fn, fc, rfl⟩ := hf
      obtain ⟨ga, gn, gc, rfl⟩ := hg
      obtain ⟨t, ht⟩ : ∃ t, (x.toList == s.toList) = t := ⟨_, rfl⟩
      have HX := Lib.hid hx
      have HT := Lib.hid ht
      clear hx hz
      have hc3 : (k = 0 ∧ decide ((0 : Int) < k) = false) ∨ ((0 : Int) < k ∧ t = false) ∨ ((0 : Int) < k ∧ t = true) := by
        by_cases h : k = 0
        · exact .inl ⟨h, decide_eq_false (by omega)⟩
        · cases t
          · exact .inr (.inl ⟨by omega, rfl⟩)
          · exact .inr (.inr ⟨by omega, rfl⟩)
      rcases hc3 with ⟨hk0, hd0⟩ | ⟨hk0, rfl⟩ | ⟨hk0, rfl⟩
      · have HK0 := Lib.hid hk0
        have hd1 : ¬ 0 < k := by omega
        clear hk0
        go_wp2
        go_roundw
        case rel =>
          refine ⟨k + 1, by go_num, by omega, hb_alloc HB _, fun i hi => ?_⟩
          obtain rfl : i = 0 := by have := HK0.out; omega
          rfl
        case measure => simp [intOf]; omega
      · go_wp2
        go_roundw
        case rel =>
          refine ⟨k + 1, by go_num, by omega, hb_alloc HB _, fun i hi => ?_⟩
          rcases Nat.lt_or_ge i k with h | h
          · exact HA'.out i h
          · obtain rfl : i = k := by omega
            rw [HX.out, HT.out, Bool.and_false]
        case measure => simp [intOf]; omega
      · go_wp2
        go_ret
        obtain rfl : (k : Int) = q := by rw [← HQ.out]; exact (firstI_at hlt (by rw [HX.out, HT.out, decide_eq_true (show 0 < k by omega)]; rfl) HA'.out).symm
        exact ⟨rfl, (hb_alloc HB _).out⟩
    · obtain rfl : k = l.length := by omega
      go_wp2
      go_ret
      obtain rfl : (-1 : Int) = q := by rw [← HQ.out]; exact (firstI_no HA'.out).symm
      exact ⟨rfl, HB.out⟩
set_option maxHeartbeats 2000000 in
set_option maxRecDepth 1000000 in
theorem secret_r (s : ByteArray) (w : World) (q : Bool) (hq : secretB s = q) :
    Calls Tryz.prog 31 #[.string s] w fun e w' => e = .returned (.bool q) ∧ w' = w := by
  by_cases h0 : 0 < s.size
  · have hne : s.toList.isEmpty = false := by simpa using toList_ne h0
    obtain ⟨c, hc⟩ : ∃ c, byteAt s 0 = c := ⟨_, rfl⟩
    have hcc : ((s[0]'h0).toNat : Int) = c := by rw [← hc, byteAt_of s 0 h0]
    have HQ : Hid ((decide (65 ≤ c) && decide (c ≤ 90)) = q) := by
      show _ = _
      rw [← hq, ← hc]; unfold secretB; rw [decide_eq_true h0]; rfl
    clear hq hc
    have hcs : (decide (65 ≤ c) = false) ∨ (65 ≤ c ∧ decide (c ≤ 90) = false) ∨ (65 ≤ c ∧ c ≤ 90) := by
      by_cases h1 : 65 ≤ c
      · by_cases h2 : c ≤ 90
        · exact .inr (.inr ⟨h1, h2⟩)
        · exact .inr (.inl ⟨h1, decide_eq_false h2⟩)
      · exact .inl (decide_eq_false h1)
    rcases hcs with h1 | ⟨h1, h2⟩ | ⟨h1, h2⟩
    · obtain rfl : q = false := by rw [← HQ.out, h1]; rfl
      go_enter Tryz.func31, Tryz.ntmps31
      go_wp2
      go_ret
      exact ⟨rfl, rfl⟩
    · obtain rfl : q = false := by rw [← HQ.out, h2, Bool.and_false]
      go_enter Tryz.func31, Tryz.ntmps31
      go_wp2
      go_ret
      exact ⟨rfl, rfl⟩
    · obtain rfl : q = true := by rw [← HQ.out, decide_eq_true h1, decide_eq_true h2]; rfl
      go_enter Tryz.func31, Tryz.ntmps31
      go_wp2
      go_ret
      exact ⟨rfl, rfl⟩
  · have hl : s.toList.length = s.size := by rw [ByteArray.toList_eq]; cases s; rfl
    have he : s.toList = [] := List.eq_nil_of_length_eq_zero (by omega)
    clear hl
    obtain rfl : q = false := by rw [← hq]; unfold secretB; rw [decide_eq_false h0]; rfl
    clear hq h0
    go_enter Tryz.func31, Tryz.ntmps31
    go_wp2
    go_ret
    exact ⟨rfl, rfl⟩
end Go.Proofs.YthjjcmmonjajhaaGreatDoor
namespace Go.Proofs.YthjjcmmonjajhaaGreatDoor
open Go.RowKit Go.Sort
set_option linter.unusedVariables false

theorem cellB {w1 W : World} {b o : Nat} {v : Value} (h : Hid (Below w1.heap.size w1 W)) (hc : w1.cell? ⟨b, o, none⟩ = some v) : W.cell? ⟨b, o, none⟩ = some v := (h.out.cell (p := ⟨b, o, none⟩) (lt_of_cell hc)).trans hc
theorem Wr.cells {n0 : Nat} {W : World} {wb : Nat} {sc : SC} {vv av all : Value} {l : List VI} (h : Wr n0 W wb sc vv av all l) : W.cell? ⟨wb, 2, none⟩ = some vv ∧ W.cell? ⟨wb, 3, none⟩ = some av ∧ W.cell? ⟨wb, 4, none⟩ = some all := by
  obtain ⟨_, lv, hb, _⟩ := h
  exact ⟨cell_of_heap hb 2, cell_of_heap hb 3, cell_of_heap hb 4⟩

set_option maxHeartbeats 4000000 in
set_option maxRecDepth 1000000 in
theorem wexpr_1 (n0 wb : Nat) (sc : SC) (all : List SC) (xa xb xc : Option Addr) (xn xm yn ym zn zm : Nat) (l : List VI) (W : World) (hw : Wr n0 W wb sc (.slice xa xn xm) (.slice xb yn ym) (.slice xc zn zm) l) (hn : n0 ≤ W.heap.size) (hl : l.length ≤ 4194304)
    (hv : TSl W (.slice xa xn xm) sc.vars) (ha : TSl W (.slice xb yn ym) sc.arrays) (hs : CSl W (.slice xc zn zm) all) (n : Int) (s : ByteArray) (pa : Option Addr) (pn pc : Nat) :
    Calls Tryz.prog 56 #[.pointer (some ⟨wb, 0, none⟩), .agg #[.int .i64 1, .int .i64 n, .string s, .slice pa pn pc]] W fun e w' => e = .returned (.tuple #[]) ∧ Wk n0 wb W w' ∧ Wr n0 w' wb sc (.slice xa xn xm) (.slice xb yn ym) (.slice xc zn zm) (l ++ [⟨1, 0, n⟩]) := by
  have HW := Lib.hid hw
  have HV := Lib.hid hv
  have HA := Lib.hid ha
  have HS := Lib.hid hs
  have hbl : Below W.heap.size W (W.alloc (.cells #[.int .i64 1, .int .i64 n, .string s, .slice pa pn pc] 51)) := (Below.refl _ _).alloc (Nat.le_refl _) _
  have HBL := Lib.hid hbl
  clear hw hv ha hs hbl
  go_enter Tryz.func56, Tryz.ntmps56
  go_wp2_with (go_at_call 13; refine (put_r n0 wb sc (.slice xa xn xm) (.slice xb yn ym) (.slice xc zn zm) l 1 0 n _ (HW.out.stay HBL.out) hl).mono ?_; rintro e w' ⟨rfl, hk, hr⟩; have HK := Lib.hid hk; have HR := Lib.hid hr; clear hk hr)
  go_end0
  exact ⟨rfl, (Wk.of_below hn HBL.out).trans HK.out, HR.out⟩

set_option maxHeartbeats 4000000 in
set_option maxRecDepth 1000000 in
theorem wexpr_3 (n0 wb : Nat) (sc : SC) (all : List SC) (xa xb xc : Option Addr) (xn xm yn ym zn zm : Nat) (l : List VI) (W : World) (hw : Wr n0 W wb sc (.slice xa xn xm) (.slice xb yn ym) (.slice xc zn zm) l) (hn : n0 ≤ W.heap.size) (hl : l.length ≤ 4194304)
    (hv : TSl W (.slice xa xn xm) sc.vars) (ha : TSl W (.slice xb yn ym) sc.arrays) (hs : CSl W (.slice xc zn zm) all) (n : Int) (s : ByteArray) (pa : Option Addr) (pn pc : Nat) :
    Calls Tryz.prog 56 #[.pointer (some ⟨wb, 0, none⟩), .agg #[.int .i64 3, .int .i64 n, .string s, .slice pa pn pc]] W fun e w' => e = .returned (.tuple #[]) ∧ Wk n0 wb W w' ∧ Wr n0 w' wb sc (.slice xa xn xm) (.slice xb yn ym) (.slice xc zn zm) (l ++ [⟨25, 0, 0⟩]) := by
  have HW := Lib.hid hw
  have HV := Lib.hid hv
  have HA := Lib.hid ha
  have HS := Lib.hid hs
  have hbl : Below W.heap.size W (W.alloc (.cells #[.int .i64 3, .int .i64 n, .string s, .slice pa pn pc] 51)) := (Below.refl _ _).alloc (Nat.le_refl _) _
  have HBL := Lib.hid hbl
  clear hw hv ha hs hbl
  go_enter Tryz.func56, Tryz.ntmps56
  go_wp2_with (go_at_call 13; refine (put_r n0 wb sc (.slice xa xn xm) (.slice xb yn ym) (.slice xc zn zm) l 25 0 0 _ (HW.out.stay HBL.out) hl).mono ?_; rintro e w' ⟨rfl, hk, hr⟩; have HK := Lib.hid hk; have HR := Lib.hid hr; clear hk hr)
  go_end0
  exact ⟨rfl, (Wk.of_below hn HBL.out).trans HK.out, HR.out⟩

set_option maxHeartbeats 4000000 in
set_option maxRecDepth 1000000 in
theorem wexpr_2 (n0 wb : Nat) (sc : SC) (all : List SC) (xa xb xc : Option Addr) (xn xm yn ym zn zm : Nat) (l : List VI) (W : World) (hw : Wr n0 W wb sc (.slice xa xn xm) (.slice xb yn ym) (.slice xc zn zm) l) (hn : n0 ≤ W.heap.size) (hl : l.length ≤ 4194304)
    (hv : TSl W (.slice xa xn xm) sc.vars) (ha : TSl W (.slice xb yn ym) sc.arrays) (hs : CSl W (.slice xc zn zm) all) (n : Int) (s : ByteArray) (pa : Option Addr) (pn pc : Nat) :
    Calls Tryz.prog 56 #[.pointer (some ⟨wb, 0, none⟩), .agg #[.int .i64 2, .int .i64 n, .string s, .slice pa pn pc]] W fun e w' => e = .returned (.tuple #[]) ∧ Wk n0 wb W w' ∧ Wr n0 w' wb sc (.slice xa xn xm) (.slice xb yn ym) (.slice xc zn zm) (l ++ [⟨2, slotI sc.vars s, 0⟩]) := by
  have HW := Lib.hid hw
  have HV := Lib.hid hv
  have HA := Lib.hid ha
  have HS := Lib.hid hs
  have hbl : Below W.heap.size W (W.alloc (.cells #[.int .i64 2, .int .i64 n, .string s, .slice pa pn pc] 51)) := (Below.refl _ _).alloc (Nat.le_refl _) _
  have HBL := Lib.hid hbl
  clear hw hv ha hs hbl
  obtain ⟨q, hq⟩ : ∃ q, slotI sc.vars s = q := ⟨_, rfl⟩
  have HQ := Lib.hid hq
  rw [hq]
  clear hq
  obtain ⟨c2, c3, c4⟩ := (HW.out.stay HBL.out).cells
  have b2 : (W.alloc (.cells #[.int .i64 2, .int .i64 n, .string s, .slice pa pn pc] 51)).cell? ⟨W.heap.size, 2, none⟩ = some (.string s) := by simp
  have HC := Lib.hid c2
  have HB2 := Lib.hid b2
  clear c2 c3 c4 b2
  go_enter Tryz.func56, Tryz.ntmps56
  go_upto_region 6 with fail
  generalize W.alloc (.cells #[.int .i64 2, .int .i64 n, .string s, .slice pa pn pc] 51) = W1 at HBL HC HB2 ⊢
  refine region_flow rfl 9 rfl (by decide +kernel) [20, 21, 22, 23, 24, 25, 26, 27, 28] (by decide +kernel) rfl (by decide) (by simp) (fun w w' => Below w.heap.size w w') (fun w => Below W1.heap.size W1 w)
    (fun j v _ => v = ([.pointer (some ⟨wb, 0, none⟩), .pointer (some ⟨wb, 0, none⟩), .pointer (some ⟨wb, 0, none⟩), .pointer (some ⟨wb, 0, none⟩), .pointer (some ⟨wb, 2, none⟩), .slice xa xn xm, .pointer (some ⟨W.heap.size, 2, none⟩), .string s, .int .i64 q] : List Value).getD j undef) (fun _ _ _ _ _ h => h) ?hr6 ?hs6 ?hl6
  case hs6 =>
    intro ix hix a wx hR hout hdep
    have hix' : ix = 0 ∨ ix = 1 ∨ ix = 2 ∨ ix = 3 ∨ ix = 4 ∨ ix = 5 ∨ ix = 6 ∨ ix = 7 ∨ ix = 8 := by omega
    rcases hix' with rfl | rfl | rfl | rfl | rfl | rfl | rfl | rfl | rfl
    · have HR := Lib.hid hR
      clear hR
      have e0 := hout 0 (by decide)
      clear hout hdep
      refine op_list (by rfl) ?_
      go_wp2
      exact withK_intro ⟨_, rfl, Below.refl _ _, HR.out, rfl⟩
    · have HR := Lib.hid hR
      clear hR
      have e0 := hout 0 (by decide)
      clear hout hdep
      refine op_list (by rfl) ?_
      go_wp2
      exact withK_intro ⟨_, rfl, Below.refl _ _, HR.out, rfl⟩
    · have HR := Lib.hid hR
      clear hR
      have e21 : a.tmps[21]? = some (.pointer (some ⟨wb, 0, none⟩)) := flow_dep hdep 1 21 (by kernel_rfl) rfl
      clear hout hdep
      refine op_list (by rfl) ?_
      go_wp2
      exact withK_intro ⟨_, rfl, Below.refl _ _, HR.out, rfl⟩
    · have HR := Lib.hid hR
      clear hR
      have e22 : a.tmps[22]? = some (.pointer (some ⟨wb, 0, none⟩)) := flow_dep hdep 2 22 (by kernel_rfl) rfl
      clear hout hdep
      refine op_list (by rfl) ?_
      go_wp2
      exact withK_intro ⟨_, rfl, Below.refl _ _, HR.out, rfl⟩
    · have HR := Lib.hid hR
      clear hR
      have e23 : a.tmps[23]? = some (.pointer (some ⟨wb, 0, none⟩)) := flow_dep hdep 3 23 (by kernel_rfl) rfl
      clear hout hdep
      refine op_list (by rfl) ?_
      go_wp2
      exact withK_intro ⟨_, rfl, Below.refl _ _, HR.out, rfl⟩
    · have HR := Lib.hid hR
      clear hR
      have e24 : a.tmps[24]? = some (.pointer (some ⟨wb, 2, none⟩)) := flow_dep hdep 4 24 (by kernel_rfl) rfl
      have c2 := cellB HR HC.out
      clear hout hdep
      refine op_list (by rfl) ?_
      go_wp2
      exact withK_intro ⟨_, rfl, Below.refl _ _, HR.out, rfl⟩
    · have HR := Lib.hid hR
      clear hR
      have e3 := hout 3 (by decide)
      clear hout hdep
      refine op_list (by rfl) ?_
      go_wp2
      exact withK_intro ⟨_, rfl, Below.refl _ _, HR.out, rfl⟩
    · have HR := Lib.hid hR
      clear hR
      have e26 : a.tmps[26]? = some (.pointer (some ⟨W.heap.size, 2, none⟩)) := flow_dep hdep 6 26 (by kernel_rfl) rfl
      have b2 := cellB HR HB2.out
      clear hout hdep
      refine op_list (by rfl) ?_
      go_wp2
      exact withK_intro ⟨_, rfl, Below.refl _ _, HR.out, rfl⟩
    · have HR := Lib.hid hR
      clear hR
      have e25 : a.tmps[25]? = some (.slice xa xn xm) := flow_dep hdep 5 25 (by kernel_rfl) rfl
      have e27 : a.tmps[27]? = some (.string s) := flow_dep hdep 7 27 (by kernel_rfl) rfl
      clear hout hdep
      refine op_list (by rfl) ?_
      go_wp2_with (go_at_call 30; refine (slot_r _ sc.vars s _ (HV.out.stay (hb_step HBL HR.out)) _ HQ.out).mono ?_; rintro e w' ⟨rfl, rfl⟩)
      exact withK_intro ⟨_, rfl, Below.refl _ _, HR.out, rfl⟩
  case hl6 =>
    intro vs wx hR hφ
    have HR := Lib.hid hR
    clear hR
    rw [fill_congr _ [20, 21, 22, 23, 24, 25, 26, 27, 28] vs (fun j => ([.pointer (some ⟨wb, 0, none⟩), .pointer (some ⟨wb, 0, none⟩), .pointer (some ⟨wb, 0, none⟩), .pointer (some ⟨wb, 0, none⟩), .pointer (some ⟨wb, 2, none⟩), .slice xa xn xm, .pointer (some ⟨W.heap.size, 2, none⟩), .string s, .int .i64 q] : List Value).getD j undef) (fun j hj => hφ j hj)]
    clear hφ vs
    refine op_list (by rfl) ?_
    simp only [fill, fillA, List.getD_cons_zero, List.getD_cons_succ, Nat.reduceAdd]
    have HBW : Hid (Below W.heap.size W wx) := hb_step HBL HR.out
    go_wp2_with (go_at_call 13; refine (put_r n0 wb sc (.slice xa xn xm) (.slice xb yn ym) (.slice xc zn zm) l 2 q 0 _ (HW.out.stay HBW.out) hl).mono ?_; rintro e w' ⟨rfl, hk, hr⟩; have HK := Lib.hid hk; have HRR := Lib.hid hr; clear hk hr)
    refine withK_intro ?_
    go_wp2
    go_end0
    exact ⟨rfl, (Wk.of_below hn HBW.out).trans HK.out, HRR.out⟩
  case hr6 => exact (Below.refl _ _).drew

set_option maxHeartbeats 4000000 in
set_option maxRecDepth 1000000 in
theorem wexpr_4 (n0 wb : Nat) (sc : SC) (all : List SC) (xa xb xc : Option Addr) (xn xm yn ym zn zm : Nat) (l : List VI) (W : World) (hw : Wr n0 W wb sc (.slice xa xn xm) (.slice xb yn ym) (.slice xc zn zm) l) (hn : n0 ≤ W.heap.size) (hl : l.length ≤ 4194304)
    (hv : TSl W (.slice xa xn xm) sc.vars) (ha : TSl W (.slice xb yn ym) sc.arrays) (hs : CSl W (.slice xc zn zm) all) (n : Int) (s : ByteArray) (pa : Option Addr) (pn pc : Nat) :
    Calls Tryz.prog 56 #[.pointer (some ⟨wb, 0, none⟩), .agg #[.int .i64 4, .int .i64 n, .string s, .slice pa pn pc]] W fun e w' => e = .returned (.tuple #[]) ∧ Wk n0 wb W w' ∧ Wr n0 w' wb sc (.slice xa xn xm) (.slice xb yn ym) (.slice xc zn zm) (l ++ [⟨23, slotI sc.arrays s, 0⟩]) := by
  have HW := Lib.hid hw
  have HV := Lib.hid hv
  have HA := Lib.hid ha
  have HS := Lib.hid hs
  have hbl : Below W.heap.size W (W.alloc (.cells #[.int .i64 4, .int .i64 n, .string s, .slice pa pn pc] 51)) := (Below.refl _ _).alloc (Nat.le_refl _) _
  have HBL := Lib.hid hbl
  clear hw hv ha hs hbl
  obtain ⟨q, hq⟩ : ∃ q, slotI sc.arrays s = q := ⟨_, rfl⟩
  have HQ := Lib.hid hq
  rw [hq]
  clear hq
  obtain ⟨c2, c3, c4⟩ := (HW.out.stay HBL.out).cells
  have b2 : (W.alloc (.cells #[.int .i64 4, .int .i64 n, .string s, .slice pa pn pc] 51)).cell? ⟨W.heap.size, 2, none⟩ = some (.string s) := by simp
  have HC := Lib.hid c3
  have HB2 := Lib.hid b2
  clear c2 c3 c4 b2
  go_enter Tryz.func56, Tryz.ntmps56
  go_upto_region 10 with fail
  generalize W.alloc (.cells #[.int .i64 4, .int .i64 n, .string s, .slice pa pn pc] 51) = W1 at HBL HC HB2 ⊢
  refine region_flow rfl 9 rfl (by decide +kernel) [36, 37, 38, 39, 40, 41, 42, 43, 44] (by decide +kernel) rfl (by decide) (by simp) (fun w w' => Below w.heap.size w w') (fun w => Below W1.heap.size W1 w)
    (fun j v _ => v = ([.pointer (some ⟨wb, 0, none⟩), .pointer (some ⟨wb, 0, none⟩), .pointer (some ⟨wb, 0, none⟩), .pointer (some ⟨wb, 0, none⟩), .pointer (some ⟨wb, 3, none⟩), .slice xb yn ym, .pointer (some ⟨W.heap.size, 2, none⟩), .string s, .int .i64 q] : List Value).getD j undef) (fun _ _ _ _ _ h => h) ?hr10 ?hs10 ?hl10
  case hs10 =>
    intro ix hix a wx hR hout hdep
    have hix' : ix = 0 ∨ ix = 1 ∨ ix = 2 ∨ ix = 3 ∨ ix = 4 ∨ ix = 5 ∨ ix = 6 ∨ ix = 7 ∨ ix = 8 := by omega
    rcases hix' with rfl | rfl | rfl | rfl | rfl | rfl | rfl | rfl | rfl
    · have HR := Lib.hid hR
      clear hR
      have e0 := hout 0 (by decide)
      clear hout hdep
      refine op_list (by rfl) ?_
      go_wp2
      exact withK_intro ⟨_, rfl, Below.refl _ _, HR.out, rfl⟩
    · have HR := Lib.hid hR
      clear hR
      have e0 := hout 0 (by decide)
      clear hout hdep
      refine op_list (by rfl) ?_
      go_wp2
      exact withK_intro ⟨_, rfl, Below.refl _ _, HR.out, rfl⟩
    · have HR := Lib.hid hR
      clear hR
      have e37 : a.tmps[37]? = some (.pointer (some ⟨wb, 0, none⟩)) := flow_dep hdep 1 37 (by kernel_rfl) rfl
      clear hout hdep
      refine op_list (by rfl) ?_
      go_wp2
      exact withK_intro ⟨_, rfl, Below.refl _ _, HR.out, rfl⟩
    · have HR := Lib.hid hR
      clear hR
      have e38 : a.tmps[38]? = some (.pointer (some ⟨wb, 0, none⟩)) := flow_dep hdep 2 38 (by kernel_rfl) rfl
      clear hout hdep
      refine op_list (by rfl) ?_
      go_wp2
      exact withK_intro ⟨_, rfl, Below.refl _ _, HR.out, rfl⟩
    · have HR := Lib.hid hR
      clear hR
      have e39 : a.tmps[39]? = some (.pointer (some ⟨wb, 0, none⟩)) := flow_dep hdep 3 39 (by kernel_rfl) rfl
      clear hout hdep
      refine op_list (by rfl) ?_
      go_wp2
      exact withK_intro ⟨_, rfl, Below.refl _ _, HR.out, rfl⟩
    · have HR := Lib.hid hR
      clear hR
      have e40 : a.tmps[40]? = some (.pointer (some ⟨wb, 3, none⟩)) := flow_dep hdep 4 40 (by kernel_rfl) rfl
      have c2 := cellB HR HC.out
      clear hout hdep
      refine op_list (by rfl) ?_
      go_wp2
      exact withK_intro ⟨_, rfl, Below.refl _ _, HR.out, rfl⟩
    · have HR := Lib.hid hR
      clear hR
      have e3 := hout 3 (by decide)
      clear hout hdep
      refine op_list (by rfl) ?_
      go_wp2
      exact withK_intro ⟨_, rfl, Below.refl _ _, HR.out, rfl⟩
    · have HR := Lib.hid hR
      clear hR
      have e42 : a.tmps[42]? = some (.pointer (some ⟨W.heap.size, 2, none⟩)) := flow_dep hdep 6 42 (by kernel_rfl) rfl
      have b2 := cellB HR HB2.out
      clear hout hdep
      refine op_list (by rfl) ?_
      go_wp2
      exact withK_intro ⟨_, rfl, Below.refl _ _, HR.out, rfl⟩
    · have HR := Lib.hid hR
      clear hR
      have e41 : a.tmps[41]? = some (.slice xb yn ym) := flow_dep hdep 5 41 (by kernel_rfl) rfl
      have e43 : a.tmps[43]? = some (.string s) := flow_dep hdep 7 43 (by kernel_rfl) rfl
      clear hout hdep
      refine op_list (by rfl) ?_
      go_wp2_with (go_at_call 30; refine (slot_r _ sc.arrays s _ (HA.out.stay (hb_step HBL HR.out)) _ HQ.out).mono ?_; rintro e w' ⟨rfl, rfl⟩)
      exact withK_intro ⟨_, rfl, Below.refl _ _, HR.out, rfl⟩
  case hl10 =>
    intro vs wx hR hφ
    have HR := Lib.hid hR
    clear hR
    rw [fill_congr _ [36, 37, 38, 39, 40, 41, 42, 43, 44] vs (fun j => ([.pointer (some ⟨wb, 0, none⟩), .pointer (some ⟨wb, 0, none⟩), .pointer (some ⟨wb, 0, none⟩), .pointer (some ⟨wb, 0, none⟩), .pointer (some ⟨wb, 3, none⟩), .slice xb yn ym, .pointer (some ⟨W.heap.size, 2, none⟩), .string s, .int .i64 q] : List Value).getD j undef) (fun j hj => hφ j hj)]
    clear hφ vs
    refine op_list (by rfl) ?_
    simp only [fill, fillA, List.getD_cons_zero, List.getD_cons_succ, Nat.reduceAdd]
    have HBW : Hid (Below W.heap.size W wx) := hb_step HBL HR.out
    go_wp2_with (go_at_call 13; refine (put_r n0 wb sc (.slice xa xn xm) (.slice xb yn ym) (.slice xc zn zm) l 23 q 0 _ (HW.out.stay HBW.out) hl).mono ?_; rintro e w' ⟨rfl, hk, hr⟩; have HK := Lib.hid hk; have HRR := Lib.hid hr; clear hk hr)
    refine withK_intro ?_
    go_wp2
    go_end0
    exact ⟨rfl, (Wk.of_below hn HBW.out).trans HK.out, HRR.out⟩
  case hr10 => exact (Below.refl _ _).drew

set_option maxHeartbeats 4000000 in
set_option maxRecDepth 1000000 in
theorem wexpr_5 (n0 wb : Nat) (sc : SC) (all : List SC) (xa xb xc : Option Addr) (xn xm yn ym zn zm : Nat) (l : List VI) (W : World) (hw : Wr n0 W wb sc (.slice xa xn xm) (.slice xb yn ym) (.slice xc zn zm) l) (hn : n0 ≤ W.heap.size) (hl : l.length ≤ 4194304)
    (hv : TSl W (.slice xa xn xm) sc.vars) (ha : TSl W (.slice xb yn ym) sc.arrays) (hs : CSl W (.slice xc zn zm) all) (n : Int) (s : ByteArray) (pa : Option Addr) (pn pc : Nat) :
    Calls Tryz.prog 56 #[.pointer (some ⟨wb, 0, none⟩), .agg #[.int .i64 5, .int .i64 n, .string s, .slice pa pn pc]] W fun e w' => e = .returned (.tuple #[]) ∧ Wk n0 wb W w' ∧ Wr n0 w' wb sc (.slice xa xn xm) (.slice xb yn ym) (.slice xc zn zm) (l ++ [⟨17, findI all s, 0⟩]) := by
  have HW := Lib.hid hw
  have HV := Lib.hid hv
  have HA := Lib.hid ha
  have HS := Lib.hid hs
  have hbl : Below W.heap.size W (W.alloc (.cells #[.int .i64 5, .int .i64 n, .string s, .slice pa pn pc] 51)) := (Below.refl _ _).alloc (Nat.le_refl _) _
  have HBL := Lib.hid hbl
  clear hw hv ha hs hbl
  obtain ⟨q, hq⟩ : ∃ q, findI all s = q := ⟨_, rfl⟩
  have HQ := Lib.hid hq
  rw [hq]
  clear hq
  obtain ⟨c2, c3, c4⟩ := (HW.out.stay HBL.out).cells
  have b2 : (W.alloc (.cells #[.int .i64 5, .int .i64 n, .string s, .slice pa pn pc] 51)).cell? ⟨W.heap.size, 2, none⟩ = some (.string s) := by simp
  have HC := Lib.hid c4
  have HB2 := Lib.hid b2
  clear c2 c3 c4 b2
  go_enter Tryz.func56, Tryz.ntmps56
  go_upto_region 12 with fail
  generalize W.alloc (.cells #[.int .i64 5, .int .i64 n, .string s, .slice pa pn pc] 51) = W1 at HBL HC HB2 ⊢
  refine region_flow rfl 8 rfl (by decide +kernel) [48, 49, 50, 51, 52, 53, 54, 55] (by decide +kernel) rfl (by decide) (by simp) (fun w w' => Below w.heap.size w w') (fun w => Below W1.heap.size W1 w)
    (fun j v _ => v = ([.pointer (some ⟨wb, 0, none⟩), .pointer (some ⟨wb, 0, none⟩), .pointer (some ⟨wb, 0, none⟩), .pointer (some ⟨wb, 4, none⟩), .slice xc zn zm, .pointer (some ⟨W.heap.size, 2, none⟩), .string s, .int .i64 q] : List Value).getD j undef) (fun _ _ _ _ _ h => h) ?hr12 ?hs12 ?hl12
  case hs12 =>
    intro ix hix a wx hR hout hdep
    have hix' : ix = 0 ∨ ix = 1 ∨ ix = 2 ∨ ix = 3 ∨ ix = 4 ∨ ix = 5 ∨ ix = 6 ∨ ix = 7 := by omega
    rcases hix' with rfl | rfl | rfl | rfl | rfl | rfl | rfl | rfl
    · have HR := Lib.hid hR
      clear hR
      have e0 := hout 0 (by decide)
      clear hout hdep
      refine op_list (by rfl) ?_
      go_wp2
      exact withK_intro ⟨_, rfl, Below.refl _ _, HR.out, rfl⟩
    · have HR := Lib.hid hR
      clear hR
      have e0 := hout 0 (by decide)
      clear hout hdep
      refine op_list (by rfl) ?_
      go_wp2
      exact withK_intro ⟨_, rfl, Below.refl _ _, HR.out, rfl⟩
    · have HR := Lib.hid hR
      clear hR
      have e49 : a.tmps[49]? = some (.pointer (some ⟨wb, 0, none⟩)) := flow_dep hdep 1 49 (by kernel_rfl) rfl
      clear hout hdep
      refine op_list (by rfl) ?_
      go_wp2
      exact withK_intro ⟨_, rfl, Below.refl _ _, HR.out, rfl⟩
    · have HR := Lib.hid hR
      clear hR
      have e50 : a.tmps[50]? = some (.pointer (some ⟨wb, 0, none⟩)) := flow_dep hdep 2 50 (by kernel_rfl) rfl
      clear hout hdep
      refine op_list (by rfl) ?_
      go_wp2
      exact withK_intro ⟨_, rfl, Below.refl _ _, HR.out, rfl⟩
    · have HR := Lib.hid hR
      clear hR
      have e51 : a.tmps[51]? = some (.pointer (some ⟨wb, 4, none⟩)) := flow_dep hdep 3 51 (by kernel_rfl) rfl
      have c2 := cellB HR HC.out
      clear hout hdep
      refine op_list (by rfl) ?_
      go_wp2
      exact withK_intro ⟨_, rfl, Below.refl _ _, HR.out, rfl⟩
    · have HR := Lib.hid hR
      clear hR
      have e3 := hout 3 (by decide)
      clear hout hdep
      refine op_list (by rfl) ?_
      go_wp2
      exact withK_intro ⟨_, rfl, Below.refl _ _, HR.out, rfl⟩
    · have HR := Lib.hid hR
      clear hR
      have e53 : a.tmps[53]? = some (.pointer (some ⟨W.heap.size, 2, none⟩)) := flow_dep hdep 5 53 (by kernel_rfl) rfl
      have b2 := cellB HR HB2.out
      clear hout hdep
      refine op_list (by rfl) ?_
      go_wp2
      exact withK_intro ⟨_, rfl, Below.refl _ _, HR.out, rfl⟩
    · have HR := Lib.hid hR
      clear hR
      have e52 : a.tmps[52]? = some (.slice xc zn zm) := flow_dep hdep 4 52 (by kernel_rfl) rfl
      have e54 : a.tmps[54]? = some (.string s) := flow_dep hdep 6 54 (by kernel_rfl) rfl
      clear hout hdep
      refine op_list (by rfl) ?_
      go_wp2_with (go_at_call 80; refine (find_r _ all s _ (HS.out.stay (hb_step HBL HR.out)) _ HQ.out).mono ?_; rintro e w' ⟨rfl, hb⟩; have HBc := Lib.hid hb; clear hb)
      exact withK_intro ⟨_, rfl, HBc.out, HR.out.trans (HBc.out.mono HR.out.size), rfl⟩
  case hl12 =>
    intro vs wx hR hφ
    have HR := Lib.hid hR
    clear hR
    rw [fill_congr _ [48, 49, 50, 51, 52, 53, 54, 55] vs (fun j => ([.pointer (some ⟨wb, 0, none⟩), .pointer (some ⟨wb, 0, none⟩), .pointer (some ⟨wb, 0, none⟩), .pointer (some ⟨wb, 4, none⟩), .slice xc zn zm, .pointer (some ⟨W.heap.size, 2, none⟩), .string s, .int .i64 q] : List Value).getD j undef) (fun j hj => hφ j hj)]
    clear hφ vs
    refine op_list (by rfl) ?_
    simp only [fill, fillA, List.getD_cons_zero, List.getD_cons_succ, Nat.reduceAdd]
    have HBW : Hid (Below W.heap.size W wx) := hb_step HBL HR.out
    go_wp2_with (go_at_call 13; refine (put_r n0 wb sc (.slice xa xn xm) (.slice xb yn ym) (.slice xc zn zm) l 17 q 0 _ (HW.out.stay HBW.out) hl).mono ?_; rintro e w' ⟨rfl, hk, hr⟩; have HK := Lib.hid hk; have HRR := Lib.hid hr; clear hk hr)
    refine withK_intro ?_
    go_wp2
    go_end0
    exact ⟨rfl, (Wk.of_below hn HBW.out).trans HK.out, HRR.out⟩
  case hr12 => exact (Below.refl _ _).drew

set_option maxHeartbeats 4000000 in
set_option maxRecDepth 1000000 in
theorem wexpr_6 (n0 wb : Nat) (sc : SC) (all : List SC) (xa xb xc : Option Addr) (xn xm yn ym zn zm : Nat) (l : List VI) (W : World) (hw : Wr n0 W wb sc (.slice xa xn xm) (.slice xb yn ym) (.slice xc zn zm) l) (hn : n0 ≤ W.heap.size) (hl : l.length ≤ 4194304)
    (hv : TSl W (.slice xa xn xm) sc.vars) (ha : TSl W (.slice xb yn ym) sc.arrays) (hs : CSl W (.slice xc zn zm) all) (o n : Int) (s : ByteArray) (pa : Option Addr) (pn pc : Nat) (h1 : (o == 1) = false) (h2 : (o == 2) = false) (h3 : (o == 3) = false) (h4 : (o == 4) = false) (h5 : (o == 5) = false) (x : Int) (hx : wrap64 (wrap64 (o - 6) + 4) = x) :
    Calls Tryz.prog 56 #[.pointer (some ⟨wb, 0, none⟩), .agg #[.int .i64 o, .int .i64 n, .string s, .slice pa pn pc]] W fun e w' => e = .returned (.tuple #[]) ∧ Wk n0 wb W w' ∧ Wr n0 w' wb sc (.slice xa xn xm) (.slice xb yn ym) (.slice xc zn zm) (l ++ [⟨x, 0, 0⟩]) := by
  have HW := Lib.hid hw
  have HV := Lib.hid hv
  have HA := Lib.hid ha
  have HS := Lib.hid hs
  have hbl : Below W.heap.size W (W.alloc (.cells #[.int .i64 o, .int .i64 n, .string s, .slice pa pn pc] 51)) := (Below.refl _ _).alloc (Nat.le_refl _) _
  have HBL := Lib.hid hbl
  clear hw hv ha hs hbl
  have HX := Lib.hid hx
  clear hx
  go_enter Tryz.func56, Tryz.ntmps56
  go_wp2_with (rw [HX.out]; go_at_call 13; refine (put_r n0 wb sc (.slice xa xn xm) (.slice xb yn ym) (.slice xc zn zm) l x 0 0 _ (HW.out.stay HBL.out) hl).mono ?_; rintro e w' ⟨rfl, hk, hr⟩; have HK := Lib.hid hk; have HR := Lib.hid hr; clear hk hr)
  go_end0
  exact ⟨rfl, (Wk.of_below hn HBL.out).trans HK.out, HR.out⟩

theorem wexpr_r (n0 wb : Nat) (sc : SC) (all : List SC) (xa xb xc : Option Addr) (xn xm yn ym zn zm : Nat) (l : List VI) (W : World) (hw : Wr n0 W wb sc (.slice xa xn xm) (.slice xb yn ym) (.slice xc zn zm) l) (hn : n0 ≤ W.heap.size) (hl : l.length ≤ 4194304)
    (hv : TSl W (.slice xa xn xm) sc.vars) (ha : TSl W (.slice xb yn ym) sc.arrays) (hs : CSl W (.slice xc zn zm) all) (o n : Int) (s : ByteArray) (pa : Option Addr) (pn pc : Nat) :
    Calls Tryz.prog 56 #[.pointer (some ⟨wb, 0, none⟩), .agg #[.int .i64 o, .int .i64 n, .string s, .slice pa pn pc]] W fun e w' => e = .returned (.tuple #[]) ∧ Wk n0 wb W w' ∧ Wr n0 w' wb sc (.slice xa xn xm) (.slice xb yn ym) (.slice xc zn zm) (l ++ [insE all sc o n s]) := by
  unfold insE
  by_cases h1 : o = 1
  · subst h1; exact wexpr_1 n0 wb sc all xa xb xc xn xm yn ym zn zm l W hw hn hl hv ha hs n s pa pn pc
  rw [if_neg h1]
  by_cases h2 : o = 2
  · subst h2; exact wexpr_2 n0 wb sc all xa xb xc xn xm yn ym zn zm l W hw hn hl hv ha hs n s pa pn pc
  rw [if_neg h2]
  by_cases h3 : o = 3
  · subst h3; exact wexpr_3 n0 wb sc all xa xb xc xn xm yn ym zn zm l W hw hn hl hv ha hs n s pa pn pc
  rw [if_neg h3]
  by_cases h4 : o = 4
  · subst h4; exact wexpr_4 n0 wb sc all xa xb xc xn xm yn ym zn zm l W hw hn hl hv ha hs n s pa pn pc
  rw [if_neg h4]
  by_cases h5 : o = 5
  · subst h5; exact wexpr_5 n0 wb sc all xa xb xc xn xm yn ym zn zm l W hw hn hl hv ha hs n s pa pn pc
  rw [if_neg h5]
  exact wexpr_6 n0 wb sc all xa xb xc xn xm yn ym zn zm l W hw hn hl hv ha hs o n s pa pn pc (by simpa using h1) (by simpa using h2) (by simpa using h3) (by simpa using h4) (by simpa using h5) _ rfl
end Go.Proofs.YthjjcmmonjajhaaGreatDoor
namespace Go.Proofs.YthjjcmmonjajhaaGreatDoor
open Go.RowKit Go.Sort
set_option linter.unusedVariables false

theorem ESl.shape0 {w : World} {v : Value} {l : List ET} (h : ESl w v l) : ∃ a cap, v = .slice a l.length cap := by cases h; exact ⟨_, _, rfl⟩
theorem ET.codeL_le (all : List SC) (sc : SC) (l : List ET) (k : Nat) : (ET.codeL all sc (l.take k)).length ≤ (ET.codeL all sc l).length := by
  have := ET.codeL_append all sc (l.take k) (l.drop k)
  rw [List.take_append_drop] at this
  rw [this, List.length_append]; omega
theorem ST.codeL_le (all : List SC) (sc : SC) (l : List ST) (at_ k : Nat) : (ST.codeL all sc (l.take k) at_).length ≤ (ST.codeL all sc l at_).length := by
  have := ST.codeL_append all sc (l.take k) (l.drop k) at_
  rw [List.take_append_drop] at this
  rw [this, List.length_append]; omega
theorem Wk.alloc {n0 wb : Nat} {a b : World} (h : Wk n0 wb a b) (hn : n0 ≤ b.heap.size) (o : Obj) : Wk n0 wb a (b.alloc o) :=
  h.trans (.of_below hn ((Below.refl _ _).alloc (Nat.le_refl _) o))
/-- A new box is kept. -/
theorem Wk.box {n0 wb : Nat} {a b : World} {cs : Array Value} {t : TypeId} (h : Wk n0 wb (a.alloc (.cells cs t)) b) (hlt : wb < a.heap.size) (ht : t ≠ 46) : b.heap[a.heap.size]? = some (.cells cs t (0, 0)) :=
  h.kept _ _ (heap_alloc_new a _) (by omega) (fun cs' fr e => by injection e with _ h2 _; exact ht h2)

set_option maxHeartbeats 4000000 in
set_option maxRecDepth 1000000 in
theorem wexprs_in (w0 : World) {v : Value} {l : List ET} (h : ESl w0 v l) : ∀ (n0 wb : Nat) (sc : SC) (all : List SC) (xa xb xc : Option Addr) (xn xm yn ym zn zm : Nat) (c0 : List VI) (W : World) (hB : Below w0.heap.size w0 W) (h0 : w0.heap.size ≤ n0)
    (hw : Wr n0 W wb sc (.slice xa xn xm) (.slice xb yn ym) (.slice xc zn zm) c0) (hn : n0 ≤ W.heap.size) (hl : c0.length + (ET.codeL all sc l).length ≤ 4194304)
    (hv : TSl w0 (.slice xa xn xm) sc.vars) (ha : TSl w0 (.slice xb yn ym) sc.arrays) (hs : CSl w0 (.slice xc zn zm) all),
    Calls Tryz.prog 29 #[.pointer (some ⟨wb, 0, none⟩), v] W fun e w' => e = .returned (.tuple #[]) ∧ Wk n0 wb W w' ∧ Wr n0 w' wb sc (.slice xa xn xm) (.slice xb yn ym) (.slice xc zn zm) (c0 ++ ET.codeL all sc l) := by
  induction h with
  | mk a b off cap l f ha hc hm hcell hsub ih =>
    intro n0 wb sc all xa xb xc xn xm yn ym zn zm c0 W hB h0 hw hn hl hv hva hs
    have HA := Lib.hid ha
    have HC := Lib.hid hcell
    have HIH := Lib.hid ih
    have HSub := Lib.hid hsub
    have HB0 := Lib.hid hB
    have HW := Lib.hid hw
    have HL := Lib.hid hl
    have HV := Lib.hid hv
    have HVA := Lib.hid hva
    have HS := Lib.hid hs
    have hm1 : cap ≤ 9223372036854775807 := hm
    clear ha hcell ih hsub hB hw hm hl hv hva hs
    go_enter Tryz.func29, Tryz.ntmps29
    go_wp2
    go_loopw [8] (fun i wr => ∃ k : Nat, i = .int .i64 k ∧ k ≤ l.length ∧ Hid (Wk n0 wb W wr) ∧ Hid (Wr n0 wr wb sc (.slice xa xn xm) (.slice xb yn ym) (.slice xc zn zm) (c0 ++ ET.codeL all sc (l.take k)))) (fun i _ => l.length - (intOf i).toNat)
    case atStart => exact ⟨0, rfl, by omega, Wk.refl _ _ _, by show Wr _ _ _ _ _ _ _ _; rw [List.take_zero]; simp only [ET.codeL, List.append_nil]; exact HW.out⟩
    case round =>
      obtain ⟨k, rfl, hk, HK, HR⟩ := hrel
      by_cases hlt : k < l.length
      · obtain rfl := HA.out (by omega)
        obtain ⟨e0, e1, e2, e3⟩ := HC.out k hlt
        have WB : Below w0.heap.size w0 wr := HB0.out.trans (HK.out.below.mono h0)
        have hz : b < w0.heap.size := lt_of_cell e0
        replace e0 := (WB.cell (p := ⟨b, off + k * 4, none⟩) hz).trans e0
        replace e1 := (WB.cell (p := ⟨b, off + k * 4 + 1, none⟩) hz).trans e1
        replace e2 := (WB.cell (p := ⟨b, off + k * 4 + 2, none⟩) hz).trans e2
        replace e3 := (WB.cell (p := ⟨b, off + k * 4 + 3, none⟩) hz).trans e3
        have HI := Lib.hid (HIH.out k hlt)
        have hT := ET.codeL_take all sc l k hlt
        have hle := ET.codeL_le all sc l (k + 1)
        have hX := ET.code_parts all sc (l.getD k default)
        have hsh := (HSub.out k hlt).shape0
        generalize l.getD k default = x at e0 e1 e2 hT hX HI hsh
        generalize f k = pv at e3 HI hsh
        obtain ⟨o, n, s, ps⟩ := x
        simp only [ET.op, ET.num, ET.name, ET.parts] at e0 e1 e2 hX HI hsh
        obtain ⟨pa, pc, rfl⟩ := hsh
        rw [hX] at hT
        have hlen : (ET.codeL all sc (l.take (k + 1))).length = (ET.codeL all sc (l.take k)).length + ((ET.codeL all sc ps).length + 1) := by rw [hT]; simp
        have hnr : n0 ≤ wr.heap.size := Nat.le_trans hn HK.out.size
        have hwl : wb < wr.heap.size := HR.out.lt
        have HT := Lib.hid hT
        have HL1 : Hid ((c0 ++ ET.codeL all sc (l.take k)).length + (ET.codeL all sc ps).length ≤ 4194304) := by
          show _ ≤ _
          have := HL.out
          simp only [List.length_append]; omega
        have HL2 : Hid ((c0 ++ ET.codeL all sc (l.take k) ++ ET.codeL all sc ps).length ≤ 4194304) := by
          show _ ≤ _
          have := HL1.out
          simp only [List.length_append] at this ⊢; omega
        have HTT : Hid (c0 ++ ET.codeL all sc (l.take (k + 1)) = (c0 ++ ET.codeL all sc (l.take k)) ++ (ET.codeL all sc ps ++ [insE all sc o n s])) := by show _ = _; rw [hT]; simp
        have HWB := Lib.hid WB
        have HNR := Lib.hid hnr
        have HWL := Lib.hid hwl
        generalize c0 ++ ET.codeL all sc (l.take k) = cs at HR HL1 HL2 HTT
        clear hT hX hle hlen HT WB hz hnr hwl
        have hbl : Below wr.heap.size wr (wr.alloc (.cells #[.int .i64 o, .int .i64 n, .string s, .slice pa ps.length pc] 51)) := (Below.refl _ _).alloc (Nat.le_refl _) _
        have HBL := Lib.hid hbl
        clear hbl
        go_wp2_with (first
          | (go_at_call 29; refine (HI.out n0 wb sc all xa xb xc xn xm yn ym zn zm cs _ (HWB.out.trans (HBL.out.mono HWB.out.size)) h0 (HR.out.stay HBL.out) (Nat.le_trans HNR.out HBL.out.size) HL1.out HV.out HVA.out HS.out).mono ?_; rintro e w2 ⟨rfl, hk2, hr2⟩; have HBX := Lib.hid (hk2.box HWL.out (by decide)); have HK2 : Hid (Wk n0 wb wr w2) := (Wk.of_below HNR.out HBL.out).trans hk2; have HR2 := Lib.hid hr2; have q0 := cell_of_heap HBX.out 0; have q1 := cell_of_heap HBX.out 1; have q2 := cell_of_heap HBX.out 2; have q3 := cell_of_heap HBX.out 3; clear hk2 hr2)
          | (go_at_call 56; refine (wexpr_r n0 wb sc all xa xb xc xn xm yn ym zn zm _ _ HR2.out (Nat.le_trans HNR.out HK2.out.size) HL2.out (HV.out.stay (HWB.out.trans (HK2.out.below.mono h0))) (HVA.out.stay (HWB.out.trans (HK2.out.below.mono h0))) (HS.out.stay (HWB.out.trans (HK2.out.below.mono h0))) o n s pa _ pc).mono ?_; rintro e w3 ⟨rfl, hk3, hr3⟩; have HK3 := Lib.hid hk3; have HR3 := Lib.hid hr3; clear hk3 hr3))
        go_roundw
        case rel => exact ⟨k + 1, by go_num, by omega, (HK.out.trans HK2.out).trans HK3.out, by show Wr _ _ _ _ _ _ _ _; rw [HTT.out, ← List.append_assoc]; exact HR3.out⟩
        case measure => simp [intOf]; omega
      · obtain rfl : k = l.length := by omega
        have hr := HR.out
        rw [List.take_length] at hr
        have HR2 := Lib.hid hr
        clear hr
        go_wp2
        go_end0
        exact ⟨rfl, HK.out, HR2.out⟩
end Go.Proofs.YthjjcmmonjajhaaGreatDoor
namespace Go.Proofs.YthjjcmmonjajhaaGreatDoor
open Go.RowKit Go.Sort
set_option linter.unusedVariables false

theorem land_at (c b r : List VI) (x : VI) : landV (c ++ x :: (b ++ r)) c.length = c ++ ⟨x.op, (c.length + 1 + b.length + r.length : Nat), x.n⟩ :: (b ++ r) := by
  unfold landV
  have h1 : (c ++ x :: (b ++ r)).getD c.length default = x := by
    rw [List.getD_eq_getElem?_getD, List.getElem?_append_right (Nat.le_refl _)]; simp
  rw [h1, List.set_append_right _ _ (Nat.le_refl _)]
  simp only [Nat.sub_self, List.set_cons_zero, List.length_append, List.length_cons]
  congr 4
  omega
/-- What stmts does to the writer, wherever it is called. -/
def Writes (w0 : World) (n0 wb : Nat) (sc : SC) (all : List SC) (xa xb xc : Option Addr) (xn xm yn ym zn zm : Nat) (v : Value) (l : List ST) : Prop :=
  ∀ (c : List VI) (W : World), Below w0.heap.size w0 W → Wr n0 W wb sc (.slice xa xn xm) (.slice xb yn ym) (.slice xc zn zm) c → n0 ≤ W.heap.size → c.length + (ST.codeL all sc l c.length).length ≤ 4194304 →
    Calls Tryz.prog 12 #[.pointer (some ⟨wb, 0, none⟩), v] W fun e w' => e = .returned (.tuple #[]) ∧ Wk n0 wb W w' ∧ Wr n0 w' wb sc (.slice xa xn xm) (.slice xb yn ym) (.slice xc zn zm) (c ++ ST.codeL all sc l c.length)

set_option maxHeartbeats 4000000 in
set_option maxRecDepth 1000000 in
theorem wbranch_r (w0 : World) (n0 wb : Nat) (sc : SC) (all : List SC) (xa xb xc : Option Addr) (xn xm yn ym zn zm : Nat) (o n : Int) (ho : o = 7 ∨ o = 8) (s : ByteArray) (pa ba ea : Option Addr) (pn pm bn bm en em : Nat) (bs es : List ST)
    (h1 : Writes w0 n0 wb sc all xa xb xc xn xm yn ym zn zm (.slice ba bn bm) bs) (h2 : Writes w0 n0 wb sc all xa xb xc xn xm yn ym zn zm (.slice ea en em) es) (h0 : w0.heap.size ≤ n0) (c : List VI) (at_ : Nat) (bc ec : List VI)
    (hbc : ST.codeL all sc bs (c.length + 1) = bc) (hec : ST.codeL all sc es (c.length + 1 + bc.length + 1) = ec) (hl : o = 7 → c.length + 1 + bc.length + 1 + ec.length ≤ 4194304) (hl8 : o = 8 → c.length + 1 + bc.length + 1 ≤ 4194304) (W : World) (hB : Below w0.heap.size w0 W) (hw : Wr n0 W wb sc (.slice xa xn xm) (.slice xb yn ym) (.slice xc zn zm) c) (hn : n0 ≤ W.heap.size)
    (r : List VI) (hr : (if o = 7 then [⟨16, (c.length + 1 + bc.length + 1 : Nat), 0⟩] ++ bc ++ [⟨15, (c.length + 1 + bc.length + 1 + ec.length : Nat), 0⟩] ++ ec else [⟨16, (c.length + 1 + bc.length + 1 : Nat), 0⟩] ++ bc ++ [⟨15, (at_ : Nat), 0⟩]) = r) :
    Calls Tryz.prog 32 #[.pointer (some ⟨wb, 0, none⟩), .agg #[.int .i64 o, .string s, .int .i64 n, .slice pa pn pm, .slice ba bn bm, .slice ea en em], .int .i64 at_] W fun e w' => e = .returned (.tuple #[]) ∧ Wk n0 wb W w' ∧ Wr n0 w' wb sc (.slice xa xn xm) (.slice xb yn ym) (.slice xc zn zm) (c ++ r) := by
  have HW := Lib.hid hw
  have H1 := Lib.hid h1
  have H2 := Lib.hid h2
  have HB := Lib.hid hB
  have HBC := Lib.hid hbc
  have HEC := Lib.hid hec
  have HL := Lib.hid hl
  have HR := Lib.hid hr
  have HLT := Lib.hid hw.lt
  have hbl : Below W.heap.size W (W.alloc (.cells #[.int .i64 o, .string s, .int .i64 n, .slice pa pn pm, .slice ba bn bm, .slice ea en em] 54)) := (Below.refl _ _).alloc (Nat.le_refl _) _
  have HBL := Lib.hid hbl
  have HK0 : Hid (Wk n0 wb W (W.alloc (.cells #[.int .i64 o, .string s, .int .i64 n, .slice pa pn pm, .slice ba bn bm, .slice ea en em] 54))) := .of_below hn hbl
  have hpj : c.length + 1 + bc.length + 1 ≤ 4194304 := by
    rcases ho with h | h
    · have := hl h; omega
    · exact hl8 h
  have hlc : c.length ≤ 4194304 := by omega
  have HLC := Lib.hid hlc
  clear hw h1 h2 hB hbc hec hl hl8 hr hbl hlc
  go_enter Tryz.func32, Tryz.ntmps32
  go_wp2_with fail
  refine (put_r n0 wb sc _ _ _ c 16 0 0 _ (HW.out.stay HBL.out) HLC.out).mono ?_
  rintro e w1 ⟨rfl, hk1, hr1⟩
  have HX1 := Lib.hid (hk1.box HLT.out (by decide))
  have HK1 : Hid (Wk n0 wb W w1) := HK0.out.trans hk1
  have HR1 := Lib.hid hr1
  clear hk1 hr1
  have q4 := cell_of_heap HX1.out 4
  go_wp2_with fail
  refine (H1.out _ _ (HB.out.trans (HK1.out.below.mono h0)) HR1.out (Nat.le_trans hn HK1.out.size) (by rw [show (c ++ [(⟨16, 0, 0⟩ : VI)]).length = c.length + 1 by simp, HBC.out]; omega)).mono ?_
  rintro e w2 ⟨rfl, hk2, hr2⟩
  have HX2 : Hid (w2.heap[W.heap.size]? = some _) := hk2.kept _ _ HX1.out (by have := HLT.out; omega) (fun cs fr e => by injection e with _ h _; exact absurd h (by decide))
  have HK2 : Hid (Wk n0 wb W w2) := HK1.out.trans hk2
  have HR2 : Hid (Wr n0 w2 wb sc (.slice xa xn xm) (.slice xb yn ym) (.slice xc zn zm) (c ++ ⟨16, 0, 0⟩ :: bc)) := by
    show Wr _ _ _ _ _ _ _ _
    have := hr2
    rw [List.length_append, show c.length + [(⟨16, 0, 0⟩ : VI)].length = c.length + 1 from rfl, HBC.out, List.append_assoc] at this
    exact this
  clear hk2 hr2 q4
  go_wp2_with fail
  refine (put_r n0 wb sc _ _ _ _ 15 at_ 0 _ HR2.out (by simp only [List.length_append, List.length_cons]; omega)).mono ?_
  rintro e w3 ⟨rfl, hk3, hr3⟩
  have HX3 : Hid (w3.heap[W.heap.size]? = some _) := hk3.kept _ _ HX2.out (by have := HLT.out; omega) (fun cs fr e => by injection e with _ h _; exact absurd h (by decide))
  have HK3 : Hid (Wk n0 wb W w3) := HK2.out.trans hk3
  have HR3 : Hid (Wr n0 w3 wb sc (.slice xa xn xm) (.slice xb yn ym) (.slice xc zn zm) (c ++ ⟨16, 0, 0⟩ :: (bc ++ [⟨15, at_, 0⟩]))) := by
    show Wr _ _ _ _ _ _ _ _
    have := hr3
    rw [List.append_assoc] at this
    exact this
  clear hk3 hr3
  have hjl : (c ++ ⟨16, 0, 0⟩ :: bc).length = c.length + 1 + bc.length := by simp only [List.length_append, List.length_cons]; omega
  rw [hjl]
  clear hjl
  go_wp2_with fail
  refine (lands_r n0 wb sc _ _ _ _ c.length (by simp only [List.length_append, List.length_cons]; omega) _ HR3.out (Nat.le_trans hn HK3.out.size)).mono ?_
  rintro e w4 ⟨rfl, hk4, hr4⟩
  have HX4 : Hid (w4.heap[W.heap.size]? = some _) := hk4.kept _ _ HX3.out (by have := HLT.out; omega) (fun cs fr e => by injection e with _ h _; exact absurd h (by decide))
  have HK4 : Hid (Wk n0 wb W w4) := HK3.out.trans hk4
  have HR4 : Hid (Wr n0 w4 wb sc (.slice xa xn xm) (.slice xb yn ym) (.slice xc zn zm) (c ++ ⟨16, (c.length + 1 + bc.length + 1 : Nat), 0⟩ :: (bc ++ [⟨15, at_, 0⟩]))) := by
    show Wr _ _ _ _ _ _ _ _
    have := hr4
    rw [land_at] at this
    exact this
  clear hk4 hr4
  have q0 := cell_of_heap HX4.out 0
  have q5 := cell_of_heap HX4.out 5
  rcases ho with rfl | rfl
  rotate_left
  · go_wp2
    go_end0
    refine ⟨rfl, HK4.out, ?_⟩
    have := HR4.out
    rw [← HR.out, if_neg (by decide)]
    simpa using this
  · go_wp2_with fail
    refine (H2.out _ _ (HB.out.trans (HK4.out.below.mono h0)) HR4.out (Nat.le_trans hn HK4.out.size) ?_).mono ?_
    · have hjl : (c ++ (⟨16, (c.length + 1 + bc.length + 1 : Nat), 0⟩ : VI) :: (bc ++ [⟨15, (at_ : Int), 0⟩])).length = c.length + 1 + bc.length + 1 := by simp only [List.length_append, List.length_cons, List.length_nil]; omega
      have hl7 := HL.out (by first | rfl | trivial)
      rw [hjl, HEC.out]; omega
    rintro e w5 ⟨rfl, hk5, hr5⟩
    have HK5 : Hid (Wk n0 wb W w5) := HK4.out.trans hk5
    have HR5 : Hid (Wr n0 w5 wb sc (.slice xa xn xm) (.slice xb yn ym) (.slice xc zn zm) ((c ++ ⟨16, (c.length + 1 + bc.length + 1 : Nat), 0⟩ :: bc) ++ ⟨15, at_, 0⟩ :: ([] ++ ec))) := by
      show Wr _ _ _ _ _ _ _ _
      have hjl : (c ++ (⟨16, (c.length + 1 + bc.length + 1 : Nat), 0⟩ : VI) :: (bc ++ [⟨15, (at_ : Int), 0⟩])).length = c.length + 1 + bc.length + 1 := by simp only [List.length_append, List.length_cons, List.length_nil]; omega
      have := hr5
      rw [hjl, HEC.out] at this
      simpa using this
    clear hk5 hr5
    have hjl : (c ++ (⟨16, (c.length + 1 + bc.length + 1 : Nat), 0⟩ : VI) :: bc).length = c.length + 1 + bc.length := by simp only [List.length_append, List.length_cons]; omega
    have hcast : (c.length : Int) + 1 + bc.length = (((c ++ (⟨16, (c.length + 1 + bc.length + 1 : Nat), 0⟩ : VI) :: bc).length : Nat) : Int) := by rw [hjl]; simp
    have HJ := Lib.hid hjl
    have HCT := Lib.hid hcast
    clear hjl hcast
    go_wp2_with fail
    rw [HCT.out]
    refine (lands_r n0 wb sc _ _ _ _ _ (by simp only [List.length_append, List.length_cons]; omega) _ HR5.out (Nat.le_trans hn HK5.out.size)).mono ?_
    rintro e w6 ⟨rfl, hk6, hr6⟩
    have HK6 : Hid (Wk n0 wb W w6) := HK5.out.trans hk6
    have HR6 : Hid (Wr n0 w6 wb sc (.slice xa xn xm) (.slice xb yn ym) (.slice xc zn zm) (c ++ r)) := by
      show Wr _ _ _ _ _ _ _ _
      have := hr6
      rw [land_at, HJ.out] at this
      rw [← HR.out, if_pos trivial]
      simpa using this
    clear hk6 hr6
    go_wp2
    go_end0
    exact ⟨rfl, HK6.out, HR6.out⟩
end Go.Proofs.YthjjcmmonjajhaaGreatDoor
