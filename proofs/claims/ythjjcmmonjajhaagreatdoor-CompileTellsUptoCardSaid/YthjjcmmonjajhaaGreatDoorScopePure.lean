/- What the names of a program are, as plain functions; the functions with main ahead, and scopes, in memory. -/
import Derived.Test.YthjjcmmonjajhaaGreatDoorScopes
import Derived.Test.YthjjcmmonjajhaaGreatDoorScopeStmts
import Derived.Test.YthjjcmmonjajhaaGreatDoorCompStmts
import Derived.Test.YthjjcmmonjajhaaGreatDoorRights
import Derived.Test.YthjjcmmonjajhaaGreatDoorFlows
import Derived.Deep.AppendSrc
namespace Go.Proofs.YthjjcmmonjajhaaGreatDoor
open Go.RowKit Go.Sort Go.Maps
set_option linter.unusedVariables false

def FS.init : FS := ⟨[], [], [], false⟩
def FS.param (st : FS) (s : ByteArray) : FS := { st with vars := addL st.vars s, wrong := memB st.vars s || st.wrong }
def FT.found (fs : List FT) (f : FT) : FS := ST.gatherL (callB fs) f.body (f.params.foldl FS.param FS.init)
def FT.sc (fs : List FT) (f : FT) : SC := ⟨f.name, f.params.length, (f.found fs).vars, (f.found fs).arrays⟩
def PT.all (p : PT) : List FT := ⟨ByteArray.empty, [], p.main⟩ :: p.funcs
def dupB (fs : List FT) : Bool := (List.range fs.length).any fun k => (paramOf (fs.take k) (fs.getD k default).name).isSome
def FS.full (st : FS) : Bool := decide (64 < st.vars.length) || decide (64 < st.arrays.length)
/-- What Resolve tells. -/
def PT.resolve (p : PT) : Int := if p.right = 0 then (if dupB p.funcs then 4 else if p.all.any (fun f => !(f.found p.funcs).fits) then 4 else if p.all.any (fun f => (f.found p.funcs).full) then 10 else 0) else p.right
def PT.scopes (p : PT) : List SC := p.all.map (FT.sc p.funcs)

theorem PT.right0 {p : PT} (h : p.right = 0) : p.headsB = true ∧ p.nodes.all (·.1) = true ∧ ¬ 64 < p.depth := by
  unfold PT.right at h
  split at h
  · next h1 =>
    obtain ⟨h2, h3⟩ := (Bool.and_eq_true _ _).mp h1
    refine ⟨h2, h3, fun hd => ?_⟩
    rw [if_pos hd] at h; cases h
  · cases h
theorem nameB_short {s : ByteArray} (h : nameB s = true) : s.size ≤ 32 := by
  unfold nameB at h
  simp only [Bool.and_eq_true, decide_eq_true_eq] at h
  omega
theorem FT.headB_short {f : FT} (h : f.headB = true) : f.name.size ≤ 32 ∧ f.params.length ≤ 8 ∧ ∀ s ∈ f.params, s.size ≤ 32 := by
  unfold FT.headB at h
  simp only [Bool.and_eq_true, Bool.not_eq_true', decide_eq_true_eq] at h
  refine ⟨nameB_short h.1, h.2.1, fun s hs => ?_⟩
  have := h.2.2
  rw [List.any_eq_false] at this
  have h2 := this s hs
  simp only [Bool.not_eq_true', Bool.not_eq_false] at h2
  exact nameB_short (by simpa using h2)
theorem PT.heads {p : PT} (h : p.headsB = true) : p.funcs.length ≤ 32 ∧ ∀ f ∈ p.funcs, f.headB = true := by
  unfold PT.headsB at h
  simp only [Bool.and_eq_true, Bool.not_eq_true', decide_eq_true_eq] at h
  refine ⟨h.1, fun f hf => ?_⟩
  have h2 := (List.any_eq_false.1 h.2) f hf
  simpa using h2
/-- What a right program's functions are like: short names, few parameters, short names in their bodies. -/
structure FT.ok (m : Nat) (f : FT) : Prop where
  name : f.name.size ≤ 32
  few : f.params.length ≤ 8
  params : ∀ s ∈ f.params, s.size ≤ 32
  body : ST.shL f.body = true
  ops : ST.opL f.body = true
  nodes : (ST.nodesL f.body 0).length ≤ m
theorem PT.all_ok {p : PT} (h : p.right = 0) {m : Nat} (hm : p.nodes.length ≤ m) : p.all.length ≤ 33 ∧ ∀ f ∈ p.all, f.ok m := by
  obtain ⟨h1, h2, _⟩ := PT.right0 h
  obtain ⟨h3, h4⟩ := PT.heads h1
  unfold PT.nodes at h2 hm
  rw [List.all_append, Bool.and_eq_true] at h2
  rw [List.length_append] at hm
  refine ⟨by unfold PT.all; simp; omega, fun f hf => ?_⟩
  unfold PT.all at hf
  rcases List.mem_cons.1 hf with rfl | hf
  · exact ⟨by show ByteArray.empty.size ≤ 32; decide, by simp, by simp, ST.shL_of _ _ h2.2, ST.opL_of _ _ h2.2, by rw [ST.nodesL_len' _ 0 1]; show (ST.nodesL p.main 1).length ≤ m; omega⟩
  · obtain ⟨g1, g2, g3⟩ := FT.headB_short (h4 f hf)
    have ha : (ST.nodesL f.body 1).all (·.1) = true := by
      rw [List.all_eq_true]
      intro x hx
      exact List.all_eq_true.1 h2.1 x (List.mem_flatMap.2 ⟨f, hf, hx⟩)
    have hl : (ST.nodesL f.body 1).length ≤ (FT.nodesL p.funcs).length := by
      obtain ⟨a, b, hab⟩ := List.append_of_mem hf
      rw [hab]
      unfold FT.nodesL
      rw [List.flatMap_append, List.flatMap_cons, List.length_append, List.length_append]; omega
    exact ⟨g1, g2, g3, ST.shL_of _ _ ha, ST.opL_of _ _ ha, by rw [ST.nodesL_len' _ 0 1]; omega⟩
theorem PT.all_at {p : PT} (k : Nat) (h : k < p.all.length) {Q : FT → Prop} (hq : ∀ f ∈ p.all, Q f) : Q (p.all.getD k default) := by
  rw [List.getD_eq_getElem?_getD, List.getElem?_eq_getElem h]; exact hq _ (List.getElem_mem _)
/-- All that is found has a short name. -/
def FS.sh (st : FS) : Prop := (∀ s ∈ st.vars, s.size ≤ 32) ∧ ∀ s ∈ st.arrays, s.size ≤ 32
theorem addL_sh {l : List ByteArray} {s : ByteArray} (hl : ∀ s ∈ l, s.size ≤ 32) (hs : s.size ≤ 32) : ∀ t ∈ addL l s, t.size ≤ 32 := by
  unfold addL
  intro t ht
  split at ht
  · exact hl t ht
  · rcases List.mem_append.1 ht with h | h
    · exact hl t h
    · rw [List.mem_singleton.1 h]; exact hs
mutual
theorem ET.gather_sh (cl : ByteArray → Nat → Bool) : ∀ (e : ET) (st : FS), e.shB = true → st.sh → (e.gather cl st).sh
  | .mk o n s l, st, h, hs => by
    simp only [ET.shB, Bool.and_eq_true, decide_eq_true_eq] at h
    simp only [ET.gather]
    refine ET.gatherL_sh cl l _ h.2 ?_
    split
    · exact ⟨addL_sh hs.1 h.1, hs.2⟩
    · split
      · exact ⟨hs.1, addL_sh hs.2 h.1⟩
      · split
        · exact hs
        · exact hs
theorem ET.gatherL_sh (cl : ByteArray → Nat → Bool) : ∀ (l : List ET) (st : FS), ET.shL l = true → st.sh → (ET.gatherL cl l st).sh
  | [], st, _, hs => hs
  | e :: r, st, h, hs => by
    simp only [ET.shL, Bool.and_eq_true] at h
    exact ET.gatherL_sh cl r _ h.2 (ET.gather_sh cl e st h.1 hs)
end
mutual
theorem ST.gather_sh (cl : ByteArray → Nat → Bool) : ∀ (e : ST) (st : FS), e.shB = true → st.sh → (e.gather cl st).sh
  | .mk o n s l b e, st, h, hs => by
    simp only [ST.shB, Bool.and_eq_true, decide_eq_true_eq] at h
    simp only [ST.gather]
    refine ST.gatherL_sh cl e _ h.2.2.2 (ST.gatherL_sh cl b _ h.2.2.1 (ET.gatherL_sh cl l _ h.2.1 ?_))
    unfold ST.own
    split
    · exact ⟨hs.1, addL_sh hs.2 h.1⟩
    · split
      · exact ⟨hs.1, addL_sh hs.2 h.1⟩
      · split
        · exact ⟨addL_sh hs.1 h.1, hs.2⟩
        · exact hs
theorem ST.gatherL_sh (cl : ByteArray → Nat → Bool) : ∀ (l : List ST) (st : FS), ST.shL l = true → st.sh → (ST.gatherL cl l st).sh
  | [], st, _, hs => hs
  | e :: r, st, h, hs => by
    simp only [ST.shL, Bool.and_eq_true] at h
    exact ST.gatherL_sh cl r _ h.2 (ST.gather_sh cl e st h.1 hs)
end
theorem params_sh : ∀ (l : List ByteArray) (st : FS), (∀ s ∈ l, s.size ≤ 32) → st.sh → (l.foldl FS.param st).sh
  | [], _, _, h => h
  | s :: r, st, hl, h => params_sh r _ (fun t ht => hl t (List.mem_cons_of_mem _ ht)) ⟨addL_sh h.1 (hl s (List.mem_cons_self ..)), h.2⟩
theorem params_le : ∀ (l : List ByteArray) (st : FS) (k : Nat), st.le k → (l.foldl FS.param st).le (k + l.length)
  | [], _, _, h => h
  | s :: r, st, k, h => by
    have := params_le r (FS.param st s) (k + 1) ⟨Nat.le_trans (addL_le _ _) (by have := h.1; omega), Nat.le_trans h.2.1 (by omega), Nat.le_trans h.2.2 (by omega)⟩
    simpa [Nat.add_assoc, Nat.add_comm 1] using this
theorem foldl_take (l : List ByteArray) (st : FS) (k : Nat) (h : k < l.length) : (l.take (k + 1)).foldl FS.param st = FS.param ((l.take k).foldl FS.param st) (l.getD k ByteArray.empty) := by
  rw [take_next l ByteArray.empty k h, List.foldl_append]; rfl
theorem init_sh : FS.init.sh := ⟨fun s h => by simp [FS.init] at h, fun s h => by simp [FS.init] at h⟩
theorem FT.found_sh {m : Nat} {f : FT} (h : f.ok m) (fs : List FT) : (f.found fs).sh := ST.gatherL_sh _ _ _ h.body (params_sh _ _ h.params init_sh)
theorem any_true {α : Type} {l : List α} {p : α → Bool} (z : α) (k : Nat) (h : k < l.length) (hp : p (l.getD k z) = true) : l.any p = true := by
  refine List.any_eq_true.2 ⟨_, ?_, hp⟩
  rw [List.getD_eq_getElem?_getD, List.getElem?_eq_getElem h]; exact List.getElem_mem _
theorem any_none {α : Type} {l : List α} {p : α → Bool} (z : α) (h : ∀ k, k < l.length → p (l.getD k z) = false) : l.any p = false := by
  rw [List.any_eq_false]
  intro x hx
  obtain ⟨k, hk, rfl⟩ := List.mem_iff_getElem.1 hx
  have := h k hk
  rw [List.getD_eq_getElem?_getD, List.getElem?_eq_getElem hk] at this
  simpa using this
theorem dup_true {fs : List FT} {k : Nat} (h : k < fs.length) (hp : (paramOf (fs.take k) (fs.getD k default).name).isSome = true) : dupB fs = true :=
  List.any_eq_true.2 ⟨k, List.mem_range.2 h, hp⟩
theorem dup_false {fs : List FT} (h : ∀ k, k < fs.length → paramOf (fs.take k) (fs.getD k default).name = none) : dupB fs = false := by
  unfold dupB
  rw [List.any_eq_false]
  intro k hk
  rw [h k (List.mem_range.1 hk)]; simp

/- In memory. -/
theorem litN_plain (n : Nat) (hn : n ≤ 1000) : plainElem (H := Unit) Tryz.prog 3 (.int .i64 n) = some (litN n, []) := by
  refine plainElem_int Tryz.underlying3 ?_
  have h1 : IntKind.i64.min = -9223372036854775808 := by decide
  have h2 : IntKind.i64.max = 9223372036854775807 := by decide
  show (decide (IntKind.i64.min ≤ (n : Int)) && decide ((n : Int) ≤ IntKind.i64.max)) = true
  rw [h1, h2, Bool.and_eq_true, decide_eq_true_eq, decide_eq_true_eq]
  omega
theorem addr_add0 (b o j : Nat) : (⟨b, o, none⟩ : Addr).add j = ⟨b, o + j, none⟩ := by unfold Addr.add; split <;> simp_all
/-- append(xs, ys...) onto a row of one's own. -/
theorem own_more_run {P : Program} (w : World) (t ty e : TypeId) (i : TypeInfo) (z : Value) (size bytes : Nat) (ht : P.underlying t = some (.slice e)) (hi : P.info? e = some i) (hz : i.zero = some z) (hsize : i.size = size) (hby : i.bytes = bytes) (hzs : z.cells.size = size) (hsz : 0 < size)
    (base b0 m0 c0 : Nat) (xs : List Value) (hown : w.ownsRow base e size (.slice (some ⟨b0, 0, none⟩) m0 c0) m0 xs) (aa : Option Addr) (b off n cap : Nat) (hat : At aa n b off) (hn : m0 + n ≤ maxLen) (hbytes : (m0 + n) * bytes ≤ 140737488355328) (c : Nat → Value) (hc : ∀ j, j < n * size → w.cell? ⟨b, off + j, none⟩ = some (c j)) (h1 : ∀ j, j < n * size → (c j).oneCell' = true) (hbase : base ≤ w.heap.size) :
    ∃ v' w', (Builtin.append_ #[t, t] ty #[.slice (some ⟨b0, 0, none⟩) m0 c0, .slice aa n cap]).run P w = .ok v' w' ∧ w'.ownsRow base e size v' (m0 + n) (xs ++ (List.range (n * size)).map c) ∧ w.grownBy w' (some b0) := by
  cases aa with
  | none =>
    have hn0 : n = 0 := by
      rcases Nat.eq_zero_or_pos n with h | h
      · exact h
      · cases hat h
    subst hn0 hsize
    have hroom : m0 + 0 ≤ c0 := by
      obtain ⟨_, ⟨h, _⟩ | ⟨g, cap', cur, h, _, _, hle, _⟩⟩ := hown
      · cases h
      · cases h; exact hle
    have := run_append_room_src (P := P) w t t ty e i ht hi b0 0 m0 c0 (.slice none 0 cap) 0 [] (Src.ofNil w ht cap) hroom (fun j hj => by simp at hj) (fun j hj => by simp at hj)
    refine ⟨_, _, this, ?_, ?_⟩
    · simpa [World.setCells] using hown
    · simpa [World.setCells] using (⟨rfl, rfl, rfl, Nat.le_refl _, fun _ _ _ => rfl⟩ : w.grownBy w (some b0))
  | some ad =>
    have hlen : ((List.range (n * size)).map c).length = n * size := by simp
    have hget : ∀ j u, ((List.range (n * size)).map c)[j]? = some u → j < n * size ∧ u = c j := by
      intro j u h
      have hj : j < n * size := by
        rcases Nat.lt_or_ge j (n * size) with h' | h'
        · exact h'
        · rw [List.getElem?_eq_none (by rw [hlen]; exact h')] at h; cases h
      rw [List.getElem?_map, List.getElem?_range hj] at h
      exact ⟨hj, by simpa using h.symm⟩
    obtain ⟨v', w', hr, ho, hg, _⟩ := run_append_own (P := P) w base t ty e i z size bytes ht hi hz hsize hby hzs hsz (.slice (some ⟨b0, 0, none⟩) m0 c0) m0 xs hown ad n cap ((List.range (n * size)).map c) hlen
      (fun j u h => by
        obtain ⟨hj, rfl⟩ := hget j u h
        have hpos : 0 < n := by
          rcases Nat.eq_zero_or_pos n with h0 | h0
          · subst h0; simp at hj
          · exact h0
        have := hat hpos
        cases this
        rw [addr_add0]; exact hc j hj)
      (fun u hu => by obtain ⟨j, hj, rfl⟩ := List.mem_map.1 hu; exact h1 j (List.mem_range.1 hj)) hn hbytes hbase
    exact ⟨v', w', hr, ho, hg⟩
theorem wpList_own_more {P : Program} (w : World) {ops : Array Oper} {o : Oper} {a : Act} {rest : List Oper} {Q : Exit → Act → World → Prop} (hgd : o.guard = none) (s x : Operand) (t : TypeId)
    (ho : o.op = .call { callee := .builtin .append, args := #[s, x], argTypes := #[t, t] })
    (e : TypeId) (i : TypeInfo) (z : Value) (size bytes : Nat) (ht : P.underlying t = some (.slice e)) (hi : P.info? e = some i) (hz : i.zero = some z) (hsize : i.size = size) (hby : i.bytes = bytes) (hzs : z.cells.size = size) (hsz : 0 < size)
    (base b0 m0 c0 : Nat) (xs : List Value) (hown : w.ownsRow base e size (.slice (some ⟨b0, 0, none⟩) m0 c0) m0 xs) (hs : a.eval s = .slice (some ⟨b0, 0, none⟩) m0 c0) (aa : Option Addr) (b off n cap : Nat) (hx : a.eval x = .slice aa n cap) (hat : At aa n b off) (hn : m0 + n ≤ maxLen) (hbytes : (m0 + n) * bytes ≤ 140737488355328) (c : Nat → Value) (hc : ∀ j, j < n * size → w.cell? ⟨b, off + j, none⟩ = some (c j)) (h1 : ∀ j, j < n * size → (c j).oneCell' = true) (hbase : base ≤ w.heap.size)
    (h : ∀ v' w', w'.ownsRow base e size v' (m0 + n) (xs ++ (List.range (n * size)).map c) → w.grownBy w' (some b0) → wpList P ops Q rest (a.put o.dst v') w') : wpList P ops Q (o :: rest) a w := by
  refine wpList_plain hgd fun K hK => ?_
  obtain ⟨v', w', hr, h2, h3⟩ := own_more_run (P := P) w t o.type e i z size bytes ht hi hz hsize hby hzs hsz base b0 m0 c0 xs hown aa b off n cap hat hn hbytes c hc h1 hbase
  unfold Oper.wp execOp
  simp only [ho, resolve, invoke, builtin, Sem.run_bind, Sem.run_pure, Result.andThen_ok, List.map_toArray, List.map_cons, List.map_nil, hs, hx, hr]
  exact hK _ _ (h v' w' h2 h3)
/-- The cells of functions in a row. -/
def fcellC (l : List FT) (f g : Nat → Value) (j : Nat) : Value :=
  match j % 3 with
  | 0 => .string (l.getD (j / 3) default).name
  | 1 => f (j / 3)
  | _ => g (j / 3)
theorem fcellC_at (l : List FT) (f g : Nat → Value) (i : Nat) : fcellC l f g (i * 3) = .string (l.getD i default).name ∧ fcellC l f g (i * 3 + 1) = f i ∧ fcellC l f g (i * 3 + 2) = g i := by
  have e0 : i * 3 % 3 = 0 := by omega
  have e1 : (i * 3 + 1) % 3 = 1 := by omega
  have e2 : (i * 3 + 2) % 3 = 2 := by omega
  have d0 : i * 3 / 3 = i := by omega
  have d1 : (i * 3 + 1) / 3 = i := by omega
  have d2 : (i * 3 + 2) / 3 = i := by omega
  simp [fcellC, e0, e1, e2, d0, d1, d2]
theorem three3 (j n : Nat) (hj : j < n * 3) : ∃ i, i < n ∧ (j = i * 3 ∨ j = i * 3 + 1 ∨ j = i * 3 + 2) := ⟨j / 3, by omega, by omega⟩
theorem TSl.shape9 {w : World} {v : Value} {l : List ByteArray} (h : TSl w v l) : ∃ a cap, v = .slice a l.length cap ∧ l.length ≤ cap ∧ cap ≤ 9223372036854775807 := by cases h with | mk a b off cap l ha hc hm _ => exact ⟨a, cap, rfl, hc, hm⟩
/-- A slice of functions taken apart. -/
structure FRw (w : World) (a : Option Addr) (n : Nat) (l : List FT) (b off : Nat) (f g : Nat → Value) : Prop where
  at_ : At a n b off
  len : n = l.length
  cell : ∀ j, j < n * 3 → w.cell? ⟨b, off + j, none⟩ = some (fcellC l f g j)
  one : ∀ j, j < n * 3 → (fcellC l f g j).oneCell' = true
  ts : ∀ i, i < n → TSl w (f i) (l.getD i default).params
  bs : ∀ i, i < n → SSl w (g i) (l.getD i default).body
theorem FSl.rw9 {w : World} {a : Option Addr} {n cap : Nat} {l : List FT} (hs : FSl w (.slice a n cap) l) : ∃ b off f g, FRw w a n l b off f g := by
  generalize hv : Value.slice a n cap = v at hs
  cases hs with
  | mk a' b off cap' l' f g ha hc hm hcell ht hb =>
    cases hv
    refine ⟨b, off, f, g, ha, rfl, ?_, ?_, ht, hb⟩
    · intro j hj
      obtain ⟨i, hi, e⟩ := three3 j _ hj
      obtain ⟨r0, r1, r2⟩ := fcellC_at l f g i
      obtain ⟨c0, c1, c2⟩ := hcell i hi
      rcases e with rfl | rfl | rfl
      · rw [r0]; exact c0
      · rw [r1, ← Nat.add_assoc]; exact c1
      · rw [r2, ← Nat.add_assoc]; exact c2
    · intro j hj
      obtain ⟨i, hi, e⟩ := three3 j _ hj
      obtain ⟨r0, r1, r2⟩ := fcellC_at l f g i
      rcases e with rfl | rfl | rfl
      · rw [r0]; rfl
      · rw [r1]; obtain ⟨_, _, h, _⟩ := (ht i hi).shape9; rw [h]; rfl
      · rw [r2]; obtain ⟨_, _, h⟩ := (hb i hi).shape0'; rw [h]; rfl
theorem TSl.nil (w : World) : TSl w (.slice none 0 0) [] := .mk none 0 0 0 [] (fun h => absurd h (by simp)) (Nat.le_refl _) (Nat.zero_le _) (fun i hi => absurd hi (by simp))
/-- Main, and the functions, in a new row. -/
theorem all_fsl {w w' : World} {a : Option Addr} {n b off : Nat} {p : PT} {f g : Nat → Value} (hs : FRw w a n p.funcs b off f g) (hb : Below w.heap.size w w') {mv : Value} (hm : SSl w mv p.main) {base : Nat} {v : Value} (ho : w'.ownsRow base 67 3 v (1 + n) ([.string ByteArray.empty, .slice none 0 0, mv] ++ (List.range (n * 3)).map (fcellC p.funcs f g))) :
    FSl w' v p.all := by
  have hl := hs.len
  subst hl
  obtain ⟨_, ⟨_, h0⟩ | ⟨q, cap', cur, rfl, _, hk, hn, hmx, hsz, ht⟩⟩ := ho
  · omega
  have hL : p.all.length = 1 + p.funcs.length := by unfold PT.all; simp; omega
  have hc : ∀ j, j < (1 + p.funcs.length) * 3 → w'.cell? ⟨q, j, none⟩ = ([.string ByteArray.empty, .slice none 0 0, mv] ++ (List.range (p.funcs.length * 3)).map (fcellC p.funcs f g))[j]? := by
    intro j hj
    rw [cell_of_heap hk, ← ht, List.getElem?_take, if_pos hj]; simp
  have hge : ∀ j, j < p.funcs.length * 3 → w'.cell? ⟨q, 3 + j, none⟩ = some (fcellC p.funcs f g j) := by
    intro j hj
    rw [hc _ (by omega), List.getElem?_append_right (by simp)]
    have : 3 + j - ([.string ByteArray.empty, .slice none 0 0, mv] : List Value).length = j := by simp
    rw [this, List.getElem?_map, List.getElem?_range hj]; rfl
  have hat : ∀ i, p.all.getD (i + 1) default = p.funcs.getD i default := fun i => by unfold PT.all; simp
  have key := FSl.mk (w := w') (some ⟨q, 0, none⟩) q 0 cap' p.all (fun i => if i = 0 then .slice none 0 0 else f (i - 1)) (fun i => if i = 0 then mv else g (i - 1)) (fun _ => rfl) (by omega) hmx
    (fun i hi => by
      rw [hL] at hi
      simp only [Nat.zero_add]
      cases i with
      | zero => exact ⟨hc 0 (by omega), hc 1 (by omega), hc 2 (by omega)⟩
      | succ i =>
        rw [hat i, if_neg (by omega), if_neg (by omega), Nat.add_sub_cancel]
        obtain ⟨r0, r1, r2⟩ := fcellC_at p.funcs f g i
        have h0 := hge (i * 3) (by omega)
        have h1 := hge (i * 3 + 1) (by omega)
        have h2 := hge (i * 3 + 2) (by omega)
        rw [r0] at h0
        rw [r1] at h1
        rw [r2] at h2
        exact ⟨by rw [← h0]; congr 2; omega, by rw [← h1]; congr 2; omega, by rw [← h2]; congr 2; omega⟩)
    (fun i hi => by
      rw [hL] at hi
      cases i with
      | zero => exact TSl.nil _
      | succ i => rw [hat i, if_neg (by omega), Nat.add_sub_cancel]; exact (hs.ts i (by omega)).stay hb)
    (fun i hi => by
      rw [hL] at hi
      cases i with
      | zero => exact hm.stay hb
      | succ i => rw [hat i, if_neg (by omega), Nat.add_sub_cancel]; exact (hs.bs i (by omega)).stay hb)
  rwa [hL] at key
/- Rows of scopes. -/
theorem rows_len {α : Type} (m : Nat) (f : Nat → List α) (hm : ∀ i, (f i).length = m) (k : Nat) : ((List.range k).flatMap f).length = k * m := by
  induction k with
  | zero => simp
  | succ k ih => rw [List.range_succ, List.flatMap_append, List.length_append, ih]; simp [hm, Nat.succ_mul]
theorem rows_at {α : Type} (m : Nat) (f : Nat → List α) (hm : ∀ i, (f i).length = m) (k i j : Nat) (hi : i < k) (hj : j < m) : ((List.range k).flatMap f)[i * m + j]? = (f i)[j]? := by
  induction k with
  | zero => omega
  | succ k ih =>
    rw [List.range_succ, List.flatMap_append]
    rcases Nat.lt_or_ge i k with h | h
    · rw [List.getElem?_append_left, ih h]
      rw [rows_len m f hm]
      have : (i + 1) * m ≤ k * m := Nat.mul_le_mul_right _ h
      rw [Nat.succ_mul] at this; omega
    · obtain rfl : i = k := by omega
      rw [List.getElem?_append_right (by rw [rows_len m f hm]; omega), rows_len m f hm]
      have : i * m + j - i * m = j := by omega
      rw [this]; simp
theorem rows_congr {α : Type} (f g : Nat → List α) (k : Nat) (h : ∀ i, i < k → f i = g i) : (List.range k).flatMap f = (List.range k).flatMap g := by
  induction k with
  | zero => rfl
  | succ k ih => rw [List.range_succ, List.flatMap_append, List.flatMap_append, ih (fun i hi => h i (by omega))]; simp [h k (by omega)]
def scC (l : List FT) (vs ars : Nat → Value) (i : Nat) : List Value := [.string (l.getD i default).name, .int .i64 (l.getD i default).params.length, vs i, ars i]
def scRows (l : List FT) (vs ars : Nat → Value) (k : Nat) : List Value := (List.range k).flatMap (scC l vs ars)
theorem own_hold9 {w w' : World} {base : Nat} {e : TypeId} {size n : Nat} {v : Value} {xs : List Value} (h : w.ownsRow base e size v n xs) (hb : Below w.heap.size w w') : w'.ownsRow base e size v n xs :=
  h.kept (grown_of_below hb) (by cases v.ownBlock <;> simp)
theorem own_other {w w' : World} {base base' : Nat} {e e' : TypeId} {size size' n n' : Nat} {v v' : Value} {xs ys : List Value} (h : w.ownsRow base e size v n xs) (h' : w.ownsRow base' e' size' v' n' ys) (he : e ≠ e') (hg : w.grownBy w' v'.ownBlock) : w'.ownsRow base e size v n xs := by
  refine h.kept hg ?_
  obtain ⟨_, ⟨rfl, _⟩ | ⟨g, cap, cur, rfl, _, hk, _⟩⟩ := h
  · exact .inl rfl
  · refine .inr ?_
    intro e1
    exact own_ne_box h' hk he e1
theorem own_lower {w : World} {base base' : Nat} {e : TypeId} {size n : Nat} {v : Value} {xs : List Value} (h : w.ownsRow base e size v n xs) (hb : base' ≤ base) : w.ownsRow base' e size v n xs := by
  obtain ⟨h1, h2 | ⟨g, cap, cur, h3, h4, h5⟩⟩ := h
  · exact ⟨h1, .inl h2⟩
  · exact ⟨h1, .inr ⟨g, cap, cur, h3, Nat.le_trans hb h4, h5⟩⟩
theorem own_unique {w : World} {base base' : Nat} {e : TypeId} {size n : Nat} {v : Value} {xs ys : List Value} (h : w.ownsRow base e size v n xs) (h' : w.ownsRow base' e size v n ys) : xs = ys := by
  obtain ⟨l1, ⟨rfl, h0⟩ | ⟨g, cap, cur, rfl, _, hk, _, _, _, ht⟩⟩ := h
  · obtain ⟨l2, _⟩ := h'
    subst h0
    have e1 : xs = [] := List.eq_nil_of_length_eq_zero (by rw [l1, Nat.zero_mul])
    have e2 : ys = [] := List.eq_nil_of_length_eq_zero (by rw [l2, Nat.zero_mul])
    rw [e1, e2]
  · obtain ⟨_, ⟨h1, _⟩ | ⟨g', cap', cur', h1, _, hk', _, _, _, ht'⟩⟩ := h'
    · cases h1
    · cases h1
      rw [hk] at hk'
      injection hk' with hk'
      injection hk' with h2 _ _
      subst h2
      rw [← ht, ← ht']
/-- The scopes of the first k functions, as far as Resolve has come. -/
structure RS (w3 : World) (fs l : List FT) (k : Nat) (lv : Value) (wr : World) : Prop where
  below : Below w3.heap.size w3 wr
  got : ∃ vs ars : Nat → Value, wr.ownsRow w3.heap.size 61 4 lv k (scRows l vs ars k) ∧ ∀ i, i < k →
    wr.ownsRow w3.heap.size 9 1 (vs i) ((l.getD i default).found fs).vars.length (((l.getD i default).found fs).vars.map Value.string) ∧ wr.ownsRow w3.heap.size 9 1 (ars i) ((l.getD i default).found fs).arrays.length (((l.getD i default).found fs).arrays.map Value.string)
theorem RS.start (w3 : World) (fs l : List FT) : RS w3 fs l 0 (.slice none 0 0) w3 :=
  ⟨Below.refl _ _, fun _ => .slice none 0 0, fun _ => .slice none 0 0, World.ownsRow_nil _ _ _ _, fun i hi => absurd hi (by omega)⟩
theorem RS.next {w3 wr wx w' : World} {fs l : List FT} {k : Nat} {lv v' x y : Value} {f : FT} (h : RS w3 fs l k lv wr) (hb : Below wr.heap.size wr wx) (hf : l.getD k default = f)
    (hx : wx.ownsRow w3.heap.size 9 1 x (f.found fs).vars.length ((f.found fs).vars.map Value.string)) (hy : wx.ownsRow w3.heap.size 9 1 y (f.found fs).arrays.length ((f.found fs).arrays.map Value.string)) (hg : wx.grownBy w' lv.ownBlock)
    (ho : ∃ xs, wx.ownsRow w3.heap.size 61 4 lv k xs ∧ w'.ownsRow w3.heap.size 61 4 v' (k + 1) (xs ++ [.string f.name, .int .i64 f.params.length, x, y])) : RS w3 fs l (k + 1) v' w' := by
  obtain ⟨h1, vs, ars, h2, h3⟩ := h
  have h2' := own_hold9 h2 hb
  refine ⟨(h1.trans (hb.mono h1.size)).grown hg (Nat.le_trans h1.size hb.size) (fun r e => own_ge h2' e), fun i => if i = k then x else vs i, fun i => if i = k then y else ars i, ?_, ?_⟩
  · have e : scRows l (fun i => if i = k then x else vs i) (fun i => if i = k then y else ars i) (k + 1) = scRows l vs ars k ++ [.string f.name, .int .i64 f.params.length, x, y] := by
      unfold scRows
      rw [List.range_succ, List.flatMap_append, rows_congr _ (scC l vs ars) k (fun i hi => by unfold scC; dsimp only; rw [if_neg (by omega), if_neg (by omega)])]
      simp [scC]
      rw [← List.getD_eq_getElem?_getD, hf]
      exact ⟨rfl, rfl⟩
    rw [e]
    obtain ⟨xs, o1, o2⟩ := ho
    rw [own_unique o1 h2'] at o2
    exact o2
  · intro i hi
    by_cases e : i = k
    · subst e
      dsimp only
      rw [if_pos rfl, if_pos rfl, hf]
      exact ⟨own_other hx h2' (by decide) hg, own_other hy h2' (by decide) hg⟩
    · dsimp only
      rw [if_neg e, if_neg e]
      obtain ⟨q1, q2⟩ := h3 i (by omega)
      exact ⟨own_other (own_hold9 q1 hb) h2' (by decide) hg, own_other (own_hold9 q2 hb) h2' (by decide) hg⟩
theorem RS.row {w3 wr : World} {fs l : List FT} {k : Nat} {lv : Value} (h : RS w3 fs l k lv wr) : ∃ xs, wr.ownsRow w3.heap.size 61 4 lv k xs := by
  obtain ⟨_, vs, ars, h2, _⟩ := h; exact ⟨_, h2⟩
theorem RS.csl {w3 wr : World} {fs l : List FT} {lv : Value} (h : RS w3 fs l l.length lv wr) : CSl wr lv (l.map (FT.sc fs)) := by
  obtain ⟨_, vs, ars, h2, h3⟩ := h
  have hat : ∀ i, i < l.length → (l.map (FT.sc fs)).getD i default = FT.sc fs (l.getD i default) := fun i hi => by
    rw [List.getD_eq_getElem?_getD, List.getElem?_map, List.getElem?_eq_getElem hi, List.getD_eq_getElem?_getD, List.getElem?_eq_getElem hi]; rfl
  have h2' := h2
  obtain ⟨_, ⟨rfl, h0⟩ | ⟨q, cap', cur, rfl, _, hk, hn, hmx, hsz, ht⟩⟩ := h2
  · obtain rfl : l = [] := List.eq_nil_of_length_eq_zero h0
    exact .mk none 0 0 0 [] (fun _ => .nilIface) (fun _ => .nilIface) (fun h => absurd h (by simp)) (Nat.le_refl _) (Nat.zero_le _) (fun i hi => absurd hi (by simp)) (fun i hi => absurd hi (by simp)) (fun i hi => absurd hi (by simp))
  · have hL : (l.map (FT.sc fs)).length = l.length := by simp
    have key := CSl.mk (w := wr) (some ⟨q, 0, none⟩) q 0 cap' (l.map (FT.sc fs)) vs ars (fun _ => rfl) (by omega) hmx
      (fun i hi => by
        rw [hL] at hi
        rw [hat i hi]
        have hc : ∀ j, j < 4 → wr.cell? ⟨q, i * 4 + j, none⟩ = (scC l vs ars i)[j]? := fun j hj => by
          rw [own_cell h2' _ (by omega)]
          exact rows_at 4 (scC l vs ars) (fun _ => rfl) _ i j hi hj
        simp only [Nat.zero_add]
        exact ⟨hc 0 (by omega), hc 1 (by omega), hc 2 (by omega), hc 3 (by omega)⟩)
      (fun i hi => by rw [hL] at hi; rw [hat i hi]; exact own_tsl (h3 i hi).1)
      (fun i hi => by rw [hL] at hi; rw [hat i hi]; exact own_tsl (h3 i hi).2)
    rwa [hL] at key
theorem infoSc : (Tryz.prog.info? 61).map (fun i => (i.zero, i.size, i.bytes)) = some (some (.agg #[.string ⟨#[]⟩, .int .i64 0, .slice none 0 0, .slice none 0 0]), 4, 72) := by kernel_rfl
theorem infoFu : (Tryz.prog.info? 67).map (fun i => (i.zero, i.size, i.bytes)) = some (some (.agg #[.string ⟨#[]⟩, .slice none 0 0, .slice none 0 0]), 3, 64) := by kernel_rfl
/-- A new finder. -/
theorem fd_new (W : World) (pb : Nat) : Fd W.heap.size (W.alloc (.cells #[.slice none 0 0, .map none, .slice none 0 0, .map none, .slice none 0 0, .map none, .bool false, clV pb] 99)) W.heap.size (clV pb) FS.init :=
  ⟨Nat.le_refl _, _, _, _, _, _, _, heap_alloc_new _ _, ⟨⟨World.ownsRow_nil _ _ _ _, .inl ⟨rfl, rfl⟩⟩, ⟨World.ownsRow_nil _ _ _ _, .inl ⟨rfl, rfl⟩⟩, ⟨World.ownsRow_nil _ _ _ _, .inl ⟨rfl, rfl⟩⟩⟩,
    ⟨fun k h => by simp [Value.ownBlock] at h, fun k h => by simp [mapBlk] at h⟩, ⟨fun k h => by simp [Value.ownBlock] at h, fun k h => by simp [mapBlk] at h⟩, ⟨fun k h => by simp [Value.ownBlock] at h, fun k h => by simp [mapBlk] at h⟩⟩
end Go.Proofs.YthjjcmmonjajhaaGreatDoor
