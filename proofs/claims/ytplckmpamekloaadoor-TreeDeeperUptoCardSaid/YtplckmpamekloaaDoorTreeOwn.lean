/- append([]T{}, xs...), as a row of one's own, to which more is appended. -/
import Derived.Test.YtplckmpamekloaaDoorTreeTwinLaws
import Derived.Laws.AppendOwn
namespace Go.Proofs.YtplckmpamekloaaDoor
open Go.RowKit Go.Sort
set_option linter.unusedVariables false

theorem own_copy_run {P : Program} (w : World) (t ty e : TypeId) (i : TypeInfo) (z : Value) (size bytes : Nat) (ht : P.underlying t = some (.slice e)) (hi : P.info? e = some i) (hz : i.zero = some z) (hsize : i.size = size) (hby : i.bytes = bytes) (hzs : z.cells.size = size) (hsz : 0 < size)
    (base b0 : Nat) (hown : w.ownsRow base e size (.slice (some ⟨b0, 0, none⟩) 0 0) 0 []) (aa : Option Addr) (b off n cap : Nat) (hat : At aa n b off) (hn : n ≤ maxLen) (hbytes : n * bytes ≤ 140737488355328) (c : Nat → Value) (hc : ∀ j, j < n * size → w.cell? ⟨b, off + j, none⟩ = some (c j)) (h1 : ∀ j, j < n * size → (c j).oneCell' = true) (hbase : base ≤ w.heap.size) :
    ∃ v' w', (Builtin.append_ #[t, t] ty #[.slice (some ⟨b0, 0, none⟩) 0 0, .slice aa n cap]).run P w = .ok v' w' ∧ w'.ownsRow base e size v' n ((List.range (n * size)).map c) ∧ w.grownBy w' (some b0) := by
  cases aa with
  | none =>
    have hn0 : n = 0 := by
      rcases Nat.eq_zero_or_pos n with h | h
      · exact h
      · cases hat h
    subst hn0 hsize
    have := run_append_room_src (P := P) w t t ty e i ht hi b0 0 0 0 (.slice none 0 cap) 0 [] (Src.ofNil w ht cap) (by omega) (fun j hj => by simp at hj) (fun j hj => by simp at hj)
    refine ⟨_, _, this, ?_, ?_⟩
    · simpa [World.setCells] using hown
    · simpa [World.setCells] using (⟨rfl, rfl, rfl, Nat.le_refl _, fun _ _ _ => rfl⟩ : w.grownBy w (some b0))
  | some ad =>
    have hlen : ((List.range (n * size)).map c).length = n * size := by simp
    have hget : ∀ j u, ((List.range (n * size)).map c)[j]? = some u → j < n * size ∧ u = c j := by
      intro j u h
      have hj : j < n * size := by
        rcases Nat.lt_or_ge j (n * size) with h' | h'
        · exact h'
        · rw [List.getElem?_eq_none (by rw [hlen]; exact h')] at h; cases h
      rw [List.getElem?_map, List.getElem?_range hj] at h
      exact ⟨hj, by simpa using h.symm⟩
    obtain ⟨v', w', hr, ho, hg, _⟩ := run_append_own (P := P) w base t ty e i z size bytes ht hi hz hsize hby hzs hsz (.slice (some ⟨b0, 0, none⟩) 0 0) 0 [] hown ad n cap ((List.range (n * size)).map c) hlen
      (fun j u h => by
        obtain ⟨hj, rfl⟩ := hget j u h
        have hpos : 0 < n := by
          rcases Nat.eq_zero_or_pos n with h0 | h0
          · subst h0; simp at hj
          · exact h0
        have := hat hpos
        cases this
        rw [addr_add]; exact hc j hj)
      (fun u hu => by obtain ⟨j, hj, rfl⟩ := List.mem_map.1 hu; exact h1 j (List.mem_range.1 hj)) (by rw [Nat.zero_add]; exact hn) (by rw [Nat.zero_add]; exact hbytes) hbase
    refine ⟨v', w', hr, ?_, hg⟩
    simpa using ho
theorem wpList_own_copy {P : Program} (w : World) {ops : Array Oper} {o : Oper} {a : Act} {rest : List Oper} {Q : Exit → Act → World → Prop} (hgd : o.guard = none) (s x : Operand) (t : TypeId)
    (ho : o.op = .call { callee := .builtin .append, args := #[s, x], argTypes := #[t, t] })
    (e : TypeId) (i : TypeInfo) (z : Value) (size bytes : Nat) (ht : P.underlying t = some (.slice e)) (hi : P.info? e = some i) (hz : i.zero = some z) (hsize : i.size = size) (hby : i.bytes = bytes) (hzs : z.cells.size = size) (hsz : 0 < size)
    (base b0 : Nat) (hown : w.ownsRow base e size (.slice (some ⟨b0, 0, none⟩) 0 0) 0 []) (hs : a.eval s = .slice (some ⟨b0, 0, none⟩) 0 0) (aa : Option Addr) (b off n cap : Nat) (hx : a.eval x = .slice aa n cap) (hat : At aa n b off) (hn : n ≤ maxLen) (hbytes : n * bytes ≤ 140737488355328) (c : Nat → Value) (hc : ∀ j, j < n * size → w.cell? ⟨b, off + j, none⟩ = some (c j)) (h1 : ∀ j, j < n * size → (c j).oneCell' = true) (hbase : base ≤ w.heap.size)
    (h : ∀ v' w', w'.ownsRow base e size v' n ((List.range (n * size)).map c) → w.grownBy w' (some b0) → wpList P ops Q rest (a.put o.dst v') w') : wpList P ops Q (o :: rest) a w := by
  refine wpList_plain hgd fun K hK => ?_
  obtain ⟨v', w', hr, h2, h3⟩ := own_copy_run (P := P) w t o.type e i z size bytes ht hi hz hsize hby hzs hsz base b0 hown aa b off n cap hat hn hbytes c hc h1 hbase
  unfold Oper.wp execOp
  simp only [ho, resolve, invoke, builtin, Sem.run_bind, Sem.run_pure, Result.andThen_ok, List.map_toArray, List.map_cons, List.map_nil, hs, hx, hr]
  exact hK _ _ (h v' w' h2 h3)
theorem own_empty (w : World) (base : Nat) (e : TypeId) (size : Nat) (hb : base ≤ w.heap.size) : (w.alloc (.cells #[] e)).ownsRow base e size (.slice (some ⟨w.heap.size, 0, none⟩) 0 0) 0 [] :=
  ⟨by simp, .inr ⟨w.heap.size, 0, #[], rfl, hb, World.alloc_heap_new w _, Nat.le_refl _, Nat.zero_le _, by simp, by simp⟩⟩
theorem grown_of_below {w w' : World} (h : Below w.heap.size w w') : w.grownBy w' none := ⟨h.os, h.tape, h.output, h.size, fun k hk _ => h.block k hk⟩
theorem own_hold {w w' : World} {base : Nat} {e : TypeId} {size n : Nat} {v : Value} {xs : List Value} (h : w.ownsRow base e size v n xs) (hb : Below w.heap.size w w') : w'.ownsRow base e size v n xs :=
  h.kept (grown_of_below hb) (by cases v.ownBlock <;> simp)
theorem ownsRow_succ' {W : World} {base : Nat} {e : TypeId} {size : Nat} {v : Value} {k : Nat} {xs : List Value} (h : W.ownsRow base e size v (k + 1) xs) : ∃ g cap, v = .slice (some ⟨g, 0, none⟩) (k + 1) cap := by
  obtain ⟨_, ⟨_, h0⟩ | ⟨g, cap, _, rfl, _⟩⟩ := h
  · omega
  · exact ⟨g, cap, rfl⟩
/-- A row of one's own stays while a block of another size, or another type, is written. -/
theorem own_apart {w w' : World} {base : Nat} {e : TypeId} {size n : Nat} {v : Value} {xs : List Value} (h : w.ownsRow base e size v n xs) (hpos : 0 < n * size) {b : Nat} {cur : Array Value} {t : TypeId} {z : Nat × Nat} (hb : w.heap[b]? = some (.cells cur t z)) (hc : cur.size = 0) (hg : w.grownBy w' (some b)) : w'.ownsRow base e size v n xs := by
  refine h.kept hg (.inr ?_)
  obtain ⟨_, ⟨_, rfl⟩ | ⟨g, cap, cur', rfl, _, hk, hn, _, hsz, _⟩⟩ := h
  · omega
  · simp only [Value.ownBlock]
    intro e'
    cases e'
    rw [hk] at hb
    injection hb with hb
    injection hb with h1 _ _
    subst h1
    have : n * size ≤ cap * size := Nat.mul_le_mul_right _ hn
    omega
/-- Rows of statements of one's own, and one more: as statements. -/
theorem own_more {w w' : World} {a : Option Addr} {n cap : Nat} {l : List ST} {b off : Nat} {f g h : Nat → Value} (hs : SRow w a n cap l b off f g h) (hb : Below w.heap.size w w') {base : Nat} {v : Value} {s : ST} {x y z : Value}
    (hx : ESl w' x s.parts) (hy : SSl w' y s.body) (hz : SSl w' z s.els)
    (ho : w'.ownsRow base 38 6 v (n + 1) ((List.range (n * 6)).map (rowC l f g h) ++ [.int .i64 s.op, .string s.name, .int .i64 s.num, x, y, z])) : SSl w' v (l ++ [s]) := by
  have hl := hs.len
  subst hl
  obtain ⟨_, ⟨_, h0⟩ | ⟨q, cap', cur, rfl, _, hk, hn, hm, hsz, ht⟩⟩ := ho
  · omega
  have hc : ∀ j, j < (l.length + 1) * 6 → w'.cell? ⟨q, j, none⟩ = ((List.range (l.length * 6)).map (rowC l f g h) ++ [.int .i64 s.op, .string s.name, .int .i64 s.num, x, y, z])[j]? := by
    intro j hj
    rw [cell_of_heap hk, ← ht, List.getElem?_take, if_pos hj]; simp
  have hlt : ∀ j, j < l.length * 6 → w'.cell? ⟨q, j, none⟩ = some (rowC l f g h j) := by
    intro j hj
    rw [hc j (by omega), List.getElem?_append_left (by simpa using hj), List.getElem?_map, List.getElem?_range hj]; rfl
  have hge : ∀ j, j < 6 → w'.cell? ⟨q, l.length * 6 + j, none⟩ = ([.int .i64 s.op, .string s.name, .int .i64 s.num, x, y, z] : List Value)[j]? := by
    intro j hj
    rw [hc _ (by omega), List.getElem?_append_right (by simp)]; congr 1; simp
  have hL : (l ++ [s]).length = l.length + 1 := by simp
  have hg1 : ∀ i, i < l.length → (l ++ [s]).getD i default = l.getD i default := fun i hi => by
    rw [List.getD_eq_getElem?_getD, List.getElem?_append_left hi, ← List.getD_eq_getElem?_getD]
  have hg2 : (l ++ [s]).getD l.length default = s := by
    rw [List.getD_eq_getElem?_getD, List.getElem?_append_right (Nat.le_refl _)]; simp
  have key := SSl.mk (w := w') (some ⟨q, 0, none⟩) q 0 cap' (l ++ [s]) (fun i => if i < l.length then f i else x) (fun i => if i < l.length then g i else y) (fun i => if i < l.length then h i else z) (fun _ => rfl) (by omega) hm
    (fun i hi => by
      rw [hL] at hi
      simp only [Nat.zero_add]
      rcases Nat.lt_or_ge i l.length with hi' | hi'
      · rw [hg1 i hi', if_pos hi', if_pos hi', if_pos hi']
        obtain ⟨r0, r1, r2, r3, r4, r5⟩ := rowC_at l f g h i
        exact ⟨(hlt _ (by omega)).trans (by rw [r0]), (hlt _ (by omega)).trans (by rw [r1]), (hlt _ (by omega)).trans (by rw [r2]), (hlt _ (by omega)).trans (by rw [r3]), (hlt _ (by omega)).trans (by rw [r4]), (hlt _ (by omega)).trans (by rw [r5])⟩
      · obtain rfl : i = l.length := by omega
        rw [hg2, if_neg (by omega), if_neg (by omega), if_neg (by omega)]
        exact ⟨hge 0 (by omega), hge 1 (by omega), hge 2 (by omega), hge 3 (by omega), hge 4 (by omega), hge 5 (by omega)⟩)
    (fun i hi => by
      rw [hL] at hi
      rcases Nat.lt_or_ge i l.length with hi' | hi'
      · rw [hg1 i hi', if_pos hi']; exact (hs.es i hi').stay hb
      · obtain rfl : i = l.length := by omega
        rw [hg2, if_neg (by omega)]; exact hx)
    (fun i hi => by
      rw [hL] at hi
      rcases Nat.lt_or_ge i l.length with hi' | hi'
      · rw [hg1 i hi', if_pos hi']; exact (hs.bs i hi').stay hb
      · obtain rfl : i = l.length := by omega
        rw [hg2, if_neg (by omega)]; exact hy)
    (fun i hi => by
      rw [hL] at hi
      rcases Nat.lt_or_ge i l.length with hi' | hi'
      · rw [hg1 i hi', if_pos hi']; exact (hs.xs i hi').stay hb
      · obtain rfl : i = l.length := by omega
        rw [hg2, if_neg (by omega)]; exact hz)
  rwa [hL] at key
end Go.Proofs.YtplckmpamekloaaDoor
