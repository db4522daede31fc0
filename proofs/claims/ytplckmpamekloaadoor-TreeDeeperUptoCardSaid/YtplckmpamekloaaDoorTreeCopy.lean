/- append([]T{}, xs...): a copy in memory. -/
import Derived.Test.YtplckmpamekloaaDoorTreeLim
import Derived.Deep.AppendSrc
import Derived.RegionTactic
namespace Go.Proofs.YtplckmpamekloaaDoor
open Go.RowKit Go.Sort
set_option linter.unusedVariables false

/-- What a copy of n rows is: either nothing, or a block of its own. -/
structure Copied (w w' : World) (e : TypeId) (size n : Nat) (c : Nat → Value) (a' : Option Addr) (cap' : Nat) : Prop where
  below : Below w.heap.size w w'
  le : n ≤ cap'
  max : cap' ≤ maxLen
  row : 0 < n → a' = some ⟨w.heap.size, 0, none⟩ ∧ ∃ cur, w'.heap[w.heap.size]? = some (.cells cur e (0, 0)) ∧ ∀ j, j < n * size → cur[j]? = some (c j)

theorem copy_run {P : Program} (w : World) (t ty e : TypeId) (i : TypeInfo) (z : Value) (size bytes : Nat) (ht : P.underlying t = some (.slice e)) (hi : P.info? e = some i) (hz : i.zero = some z) (hsize : i.size = size) (hby : i.bytes = bytes)
    (b0 : Nat) (aa : Option Addr) (b off n cap : Nat) (hat : At aa n b off) (hn : n ≤ maxLen) (hbytes : n * bytes ≤ 140737488355328) (c : Nat → Value) (hc : ∀ j, j < n * size → w.cell? ⟨b, off + j, none⟩ = some (c j)) (h1 : ∀ j, j < n * size → (c j).oneCell' = true) :
    ∃ a' cap' w', (Builtin.append_ #[t, t] ty #[.slice (some ⟨b0, 0, none⟩) 0 0, .slice aa n cap]).run P w = .ok (.slice a' n cap') w' ∧ Copied w w' e size n c a' cap' := by
  subst hsize hby
  by_cases h0 : n = 0
  · subst h0
    have hs : Src P i.size t (.slice aa 0 cap) 0 [] w := by
      cases aa with
      | none => exact Src.ofNil w ht cap
      | some ad => exact Src.ofSlice w ht ad 0 cap [] (by simp) (fun j u h => by simp at h) (fun u h => by cases h)
    have := run_append_room_src (P := P) w t t ty e i ht hi b0 0 0 0 (.slice aa 0 cap) 0 [] hs (by omega) (fun j hj => by simp at hj) (fun j hj => by simp at hj)
    exact ⟨_, _, _, this, ⟨by simpa [World.setCells] using Below.refl _ _, Nat.le_refl _, Nat.zero_le _, fun h => absurd h (by omega)⟩⟩
  · have hpos : 0 < n := by omega
    have ha := hat hpos
    subst ha
    have hlen : ((List.range (n * i.size)).map c).length = n * i.size := by simp
    have hget : ∀ j u, ((List.range (n * i.size)).map c)[j]? = some u → j < n * i.size ∧ u = c j := by
      intro j u h
      have hj : j < n * i.size := by
        rcases Nat.lt_or_ge j (n * i.size) with h' | h'
        · exact h'
        · rw [List.getElem?_eq_none (by rw [hlen]; exact h')] at h; cases h
      rw [List.getElem?_map, List.getElem?_range hj] at h
      exact ⟨hj, by simpa using h.symm⟩
    have hs : Src P i.size t (.slice (some ⟨b, off, none⟩) n cap) n ((List.range (n * i.size)).map c) w :=
      Src.ofSlice w ht ⟨b, off, none⟩ n cap _ hlen (fun j u h => by obtain ⟨hj, rfl⟩ := hget j u h; rw [addr_add]; exact hc j hj)
        (fun u h => by obtain ⟨j, hj, rfl⟩ := List.mem_map.1 h; exact h1 j (by simpa using hj))
    have := run_append_grow_src (P := P) w t t ty e i z ht hi hz (some ⟨b0, 0, none⟩) 0 0 [] (run_firstCells_some w.drew i.size 0 ⟨b0, 0, none⟩ 0 0 [] (by simp) (fun j u h => by simp at h)) (.slice (some ⟨b, off, none⟩) n cap) n _ hs (by omega) (by unfold maxLen at hn; omega) (by rw [Nat.zero_add, nextslicecap_zero hpos]; omega)
    rw [Nat.zero_add] at this
    refine ⟨_, _, _, this, ⟨?_, ?_, ?_, ?_⟩⟩
    · exact ((Below.refl _ _).drew).alloc (Nat.le_refl _) _
    · exact grownCap_ge w n 0 e
    · exact grownCap_le_maxLen w n 0 e hn
    · intro _
      refine ⟨rfl, _, World.alloc_heap_new w.drew _, ?_⟩
      intro j hj
      rw [Array.getElem?_append_left (by simp; exact hj)]
      simp [hj]

theorem step_copy {P : Program} (w : World) {ops : Array Oper} {o : Oper} {a : Act} {K : Act → World → Prop} {Q : Exit → Act → World → Prop} {E : Prop} (hgd : o.guard = none) (s x : Operand) (t : TypeId)
    (ho : o.op = .call { callee := .builtin .append, args := #[s, x], argTypes := #[t, t] })
    (e : TypeId) (i : TypeInfo) (z : Value) (size bytes : Nat) (ht : P.underlying t = some (.slice e)) (hi : P.info? e = some i) (hz : i.zero = some z) (hsize : i.size = size) (hby : i.bytes = bytes)
    (b0 : Nat) (hs : a.eval s = .slice (some ⟨b0, 0, none⟩) 0 0) (aa : Option Addr) (b off n cap : Nat) (hx : a.eval x = .slice aa n cap) (hat : At aa n b off) (hn : n ≤ maxLen) (hbytes : n * bytes ≤ 140737488355328) (c : Nat → Value) (hc : ∀ j, j < n * size → w.cell? ⟨b, off + j, none⟩ = some (c j)) (h1 : ∀ j, j < n * size → (c j).oneCell' = true)
    (h : ∀ a' cap' w', Copied w w' e size n c a' cap' → K (a.put o.dst (.slice a' n cap')) w') :
    if Region.wanted o (yielded ops a.tmps) = true then Oper.wp P o a w K Q else E := by
  have hw : Region.wanted o (yielded ops a.tmps) = true := by simp [Region.wanted, hgd]
  rw [if_pos hw]
  obtain ⟨a', cap', w', hr, hcp⟩ := copy_run (P := P) w t o.type e i z size bytes ht hi hz hsize hby b0 aa b off n cap hat hn hbytes c hc h1
  unfold Oper.wp execOp
  simp only [ho, resolve, invoke, builtin, Sem.run_bind, Sem.run_pure, Result.andThen_ok, List.map_toArray, List.map_cons, List.map_nil, hs, hx, hr]
  exact h a' cap' w' hcp

theorem wpList_copy {P : Program} (w : World) {ops : Array Oper} {o : Oper} {a : Act} {rest : List Oper} {Q : Exit → Act → World → Prop} (hgd : o.guard = none) (s x : Operand) (t : TypeId)
    (ho : o.op = .call { callee := .builtin .append, args := #[s, x], argTypes := #[t, t] })
    (e : TypeId) (i : TypeInfo) (z : Value) (size bytes : Nat) (ht : P.underlying t = some (.slice e)) (hi : P.info? e = some i) (hz : i.zero = some z) (hsize : i.size = size) (hby : i.bytes = bytes)
    (b0 : Nat) (hs : a.eval s = .slice (some ⟨b0, 0, none⟩) 0 0) (aa : Option Addr) (b off n cap : Nat) (hx : a.eval x = .slice aa n cap) (hat : At aa n b off) (hn : n ≤ maxLen) (hbytes : n * bytes ≤ 140737488355328) (c : Nat → Value) (hc : ∀ j, j < n * size → w.cell? ⟨b, off + j, none⟩ = some (c j)) (h1 : ∀ j, j < n * size → (c j).oneCell' = true)
    (h : ∀ a' cap' w', Copied w w' e size n c a' cap' → wpList P ops Q rest (a.put o.dst (.slice a' n cap')) w') : wpList P ops Q (o :: rest) a w := by
  refine wpList_plain hgd fun K hK => ?_
  obtain ⟨a', cap', w', hr, hcp⟩ := copy_run (P := P) w t o.type e i z size bytes ht hi hz hsize hby b0 aa b off n cap hat hn hbytes c hc h1
  unfold Oper.wp execOp
  simp only [ho, resolve, invoke, builtin, Sem.run_bind, Sem.run_pure, Result.andThen_ok, List.map_toArray, List.map_cons, List.map_nil, hs, hx, hr]
  exact hK _ _ (h a' cap' w' hcp)

/-- The cells of statements in a row. -/
def rowC (l : List ST) (f g h : Nat → Value) (j : Nat) : Value :=
  match j % 6 with
  | 0 => .int .i64 (l.getD (j / 6) default).op
  | 1 => .string (l.getD (j / 6) default).name
  | 2 => .int .i64 (l.getD (j / 6) default).num
  | 3 => f (j / 6)
  | 4 => g (j / 6)
  | _ => h (j / 6)
theorem rowC_at (l : List ST) (f g h : Nat → Value) (i : Nat) : rowC l f g h (i * 6) = .int .i64 (l.getD i default).op ∧ rowC l f g h (i * 6 + 1) = .string (l.getD i default).name ∧ rowC l f g h (i * 6 + 2) = .int .i64 (l.getD i default).num ∧ rowC l f g h (i * 6 + 3) = f i ∧ rowC l f g h (i * 6 + 4) = g i ∧ rowC l f g h (i * 6 + 5) = h i := by
  have e0 : i * 6 % 6 = 0 := by omega
  have e1 : (i * 6 + 1) % 6 = 1 := by omega
  have e2 : (i * 6 + 2) % 6 = 2 := by omega
  have e3 : (i * 6 + 3) % 6 = 3 := by omega
  have e4 : (i * 6 + 4) % 6 = 4 := by omega
  have e5 : (i * 6 + 5) % 6 = 5 := by omega
  have d0 : i * 6 / 6 = i := by omega
  have d1 : (i * 6 + 1) / 6 = i := by omega
  have d2 : (i * 6 + 2) / 6 = i := by omega
  have d3 : (i * 6 + 3) / 6 = i := by omega
  have d4 : (i * 6 + 4) / 6 = i := by omega
  have d5 : (i * 6 + 5) / 6 = i := by omega
  simp [rowC, e0, e1, e2, e3, e4, e5, d0, d1, d2, d3, d4, d5]
theorem six (j n : Nat) (hj : j < n * 6) : ∃ i, i < n ∧ (j = i * 6 ∨ j = i * 6 + 1 ∨ j = i * 6 + 2 ∨ j = i * 6 + 3 ∨ j = i * 6 + 4 ∨ j = i * 6 + 5) := ⟨j / 6, by omega, by omega⟩
/-- The cells of functions in a row. -/
def rowF (l : List FT) (f g : Nat → Value) (j : Nat) : Value :=
  match j % 3 with
  | 0 => .string (l.getD (j / 3) default).name
  | 1 => f (j / 3)
  | _ => g (j / 3)
theorem rowF_at (l : List FT) (f g : Nat → Value) (i : Nat) : rowF l f g (i * 3) = .string (l.getD i default).name ∧ rowF l f g (i * 3 + 1) = f i ∧ rowF l f g (i * 3 + 2) = g i := by
  have e0 : i * 3 % 3 = 0 := by omega
  have e1 : (i * 3 + 1) % 3 = 1 := by omega
  have e2 : (i * 3 + 2) % 3 = 2 := by omega
  have d0 : i * 3 / 3 = i := by omega
  have d1 : (i * 3 + 1) / 3 = i := by omega
  have d2 : (i * 3 + 2) / 3 = i := by omega
  simp [rowF, e0, e1, e2, d0, d1, d2]
theorem three (j n : Nat) (hj : j < n * 3) : ∃ i, i < n ∧ (j = i * 3 ∨ j = i * 3 + 1 ∨ j = i * 3 + 2) := ⟨j / 3, by omega, by omega⟩

/-- A slice of statements taken apart. -/
structure SRow (w : World) (a : Option Addr) (n cap : Nat) (l : List ST) (b off : Nat) (f g h : Nat → Value) : Prop where
  at_ : At a n b off
  len : n = l.length
  max : n ≤ maxLen
  cell : ∀ j, j < n * 6 → w.cell? ⟨b, off + j, none⟩ = some (rowC l f g h j)
  one : ∀ j, j < n * 6 → (rowC l f g h j).oneCell' = true
  es : ∀ i, i < n → ESl w (f i) (l.getD i default).parts
  bs : ∀ i, i < n → SSl w (g i) (l.getD i default).body
  xs : ∀ i, i < n → SSl w (h i) (l.getD i default).els
theorem SSl.row {w : World} {a : Option Addr} {n cap : Nat} {l : List ST} (hs : SSl w (.slice a n cap) l) : ∃ b off f g h, SRow w a n cap l b off f g h := by
  generalize hv : Value.slice a n cap = v at hs
  cases hs with
  | mk a' b off cap' l' f g h ha hc hm hcell he hb hx =>
    cases hv
    refine ⟨b, off, f, g, h, ha, rfl, Nat.le_trans hc hm, ?_, ?_, he, hb, hx⟩
    · intro j hj
      obtain ⟨i, hi, e⟩ := six j _ hj
      obtain ⟨r0, r1, r2, r3, r4, r5⟩ := rowC_at l f g h i
      obtain ⟨c0, c1, c2, c3, c4, c5⟩ := hcell i hi
      rcases e with rfl | rfl | rfl | rfl | rfl | rfl
      · rw [r0]; exact c0
      · rw [r1, ← Nat.add_assoc]; exact c1
      · rw [r2, ← Nat.add_assoc]; exact c2
      · rw [r3, ← Nat.add_assoc]; exact c3
      · rw [r4, ← Nat.add_assoc]; exact c4
      · rw [r5, ← Nat.add_assoc]; exact c5
    · intro j hj
      obtain ⟨i, hi, e⟩ := six j _ hj
      obtain ⟨r0, r1, r2, r3, r4, r5⟩ := rowC_at l f g h i
      rcases e with rfl | rfl | rfl | rfl | rfl | rfl
      · rw [r0]; rfl
      · rw [r1]; rfl
      · rw [r2]; rfl
      · rw [r3]; obtain ⟨_, _, h⟩ := (he i hi).shape0; rw [h]; rfl
      · rw [r4]; obtain ⟨_, _, h⟩ := (hb i hi).shape0; rw [h]; rfl
      · rw [r5]; obtain ⟨_, _, h⟩ := (hx i hi).shape0; rw [h]; rfl
/-- A slice of functions taken apart. -/
structure FRow (w : World) (a : Option Addr) (n cap : Nat) (l : List FT) (b off : Nat) (f g : Nat → Value) : Prop where
  at_ : At a n b off
  len : n = l.length
  max : n ≤ maxLen
  cell : ∀ j, j < n * 3 → w.cell? ⟨b, off + j, none⟩ = some (rowF l f g j)
  one : ∀ j, j < n * 3 → (rowF l f g j).oneCell' = true
  ts : ∀ i, i < n → TSl w (f i) (l.getD i default).params
  bs : ∀ i, i < n → SSl w (g i) (l.getD i default).body
theorem FSl.row {w : World} {a : Option Addr} {n cap : Nat} {l : List FT} (hs : FSl w (.slice a n cap) l) : ∃ b off f g, FRow w a n cap l b off f g := by
  generalize hv : Value.slice a n cap = v at hs
  cases hs with
  | mk a' b off cap' l' f g ha hc hm hcell ht hb =>
    cases hv
    refine ⟨b, off, f, g, ha, rfl, Nat.le_trans hc hm, ?_, ?_, ht, hb⟩
    · intro j hj
      obtain ⟨i, hi, e⟩ := three j _ hj
      obtain ⟨r0, r1, r2⟩ := rowF_at l f g i
      obtain ⟨c0, c1, c2⟩ := hcell i hi
      rcases e with rfl | rfl | rfl
      · rw [r0]; exact c0
      · rw [r1, ← Nat.add_assoc]; exact c1
      · rw [r2, ← Nat.add_assoc]; exact c2
    · intro j hj
      obtain ⟨i, hi, e⟩ := three j _ hj
      obtain ⟨r0, r1, r2⟩ := rowF_at l f g i
      rcases e with rfl | rfl | rfl
      · rw [r0]; rfl
      · rw [r1]; obtain ⟨_, _, h⟩ := (ht i hi).shape0; rw [h]; rfl
      · rw [r2]; obtain ⟨_, _, h⟩ := (hb i hi).shape0; rw [h]; rfl

/-- Rows of statements in a block of one's own. -/
def RowS (w : World) (g0 : Nat) (l : List ST) (f g h : Nat → Value) : Prop :=
  ∃ cur, w.heap[g0]? = some (.cells cur 38 (0, 0)) ∧ ∀ j, j < l.length * 6 → cur[j]? = some (rowC l f g h j)
theorem RowS.ssl {w : World} {g0 cap : Nat} {l : List ST} {f g h : Nat → Value} (hr : 0 < l.length → RowS w g0 l f g h) {a : Option Addr} (ha : 0 < l.length → a = some ⟨g0, 0, none⟩) (hc : l.length ≤ cap) (hm : cap ≤ maxLen)
    (he : ∀ i, i < l.length → ESl w (f i) (l.getD i default).parts) (hb : ∀ i, i < l.length → SSl w (g i) (l.getD i default).body) (hx : ∀ i, i < l.length → SSl w (h i) (l.getD i default).els) : SSl w (.slice a l.length cap) l := by
  refine .mk a g0 0 cap l f g h ha hc hm ?_ he hb hx
  intro i hi
  obtain ⟨cur, hk, hj⟩ := hr (by omega)
  obtain ⟨r0, r1, r2, r3, r4, r5⟩ := rowC_at l f g h i
  have c := fun j hj' => (cell_of_heap hk j).trans (hj j hj')
  simp only [Nat.zero_add]
  refine ⟨?_, ?_, ?_, ?_, ?_, ?_⟩
  · rw [← r0]; exact c _ (by omega)
  · rw [← r1]; exact c _ (by omega)
  · rw [← r2]; exact c _ (by omega)
  · rw [← r3]; exact c _ (by omega)
  · rw [← r4]; exact c _ (by omega)
  · rw [← r5]; exact c _ (by omega)
/-- Rows of functions in a block of one's own. -/
def RowF (w : World) (g0 : Nat) (l : List FT) (f g : Nat → Value) : Prop :=
  ∃ cur, w.heap[g0]? = some (.cells cur 35 (0, 0)) ∧ ∀ j, j < l.length * 3 → cur[j]? = some (rowF l f g j)
theorem RowF.fsl {w : World} {g0 cap : Nat} {l : List FT} {f g : Nat → Value} (hr : 0 < l.length → RowF w g0 l f g) {a : Option Addr} (ha : 0 < l.length → a = some ⟨g0, 0, none⟩) (hc : l.length ≤ cap) (hm : cap ≤ maxLen)
    (ht : ∀ i, i < l.length → TSl w (f i) (l.getD i default).params) (hb : ∀ i, i < l.length → SSl w (g i) (l.getD i default).body) : FSl w (.slice a l.length cap) l := by
  refine .mk a g0 0 cap l f g ha hc hm ?_ ht hb
  intro i hi
  obtain ⟨cur, hk, hj⟩ := hr (by omega)
  obtain ⟨r0, r1, r2⟩ := rowF_at l f g i
  have c := fun j hj' => (cell_of_heap hk j).trans (hj j hj')
  simp only [Nat.zero_add]
  refine ⟨?_, ?_, ?_⟩
  · rw [← r0]; exact c _ (by omega)
  · rw [← r1]; exact c _ (by omega)
  · rw [← r2]; exact c _ (by omega)
end Go.Proofs.YtplckmpamekloaaDoor
