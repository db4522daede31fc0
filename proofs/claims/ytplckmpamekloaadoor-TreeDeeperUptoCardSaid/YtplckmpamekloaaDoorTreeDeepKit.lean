/- Two rows of statements behind each other; depths and sizes where nothing wraps. -/
import Derived.Test.YtplckmpamekloaaDoorTreeOwn
namespace Go.Proofs.YtplckmpamekloaaDoor
open Go.RowKit Go.Sort
set_option linter.unusedVariables false

theorem own_some_run {P : Program} (w : World) (t ty e : TypeId) (i : TypeInfo) (z : Value) (size bytes : Nat) (ht : P.underlying t = some (.slice e)) (hi : P.info? e = some i) (hz : i.zero = some z) (hsize : i.size = size) (hby : i.bytes = bytes) (hzs : z.cells.size = size) (hsz : 0 < size)
    (base g n0 cap0 : Nat) (xs : List Value) (hown : w.ownsRow base e size (.slice (some ⟨g, 0, none⟩) n0 cap0) n0 xs) (aa : Option Addr) (b off n cap : Nat) (hat : At aa n b off) (hn : n0 + n ≤ maxLen) (hbytes : (n0 + n) * bytes ≤ 140737488355328) (c : Nat → Value) (hc : ∀ j, j < n * size → w.cell? ⟨b, off + j, none⟩ = some (c j)) (h1 : ∀ j, j < n * size → (c j).oneCell' = true) (hbase : base ≤ w.heap.size) :
    ∃ g' cap' w', (Builtin.append_ #[t, t] ty #[.slice (some ⟨g, 0, none⟩) n0 cap0, .slice aa n cap]).run P w = .ok (.slice (some ⟨g', 0, none⟩) (n0 + n) cap') w' ∧ w'.ownsRow base e size (.slice (some ⟨g', 0, none⟩) (n0 + n) cap') (n0 + n) (xs ++ (List.range (n * size)).map c) ∧ w.grownBy w' (some g) := by
  cases aa with
  | none =>
    have hn0 : n = 0 := by
      rcases Nat.eq_zero_or_pos n with h | h
      · exact h
      · cases hat h
    subst hn0 hsize
    have hle : n0 ≤ cap0 := by
      obtain ⟨_, ⟨h0, _⟩ | ⟨q, cap', cur, e', _, _, hn', _⟩⟩ := hown
      · cases h0
      · cases e'; exact hn'
    have := run_append_room_src (P := P) w t t ty e i ht hi g 0 n0 cap0 (.slice none 0 cap) 0 [] (Src.ofNil w ht cap) (by omega) (fun j hj => by simp at hj) (fun j hj => by simp at hj)
    refine ⟨_, _, _, this, ?_, ?_⟩
    · simpa [World.setCells] using hown
    · simpa [World.setCells] using (⟨rfl, rfl, rfl, Nat.le_refl _, fun _ _ _ => rfl⟩ : w.grownBy w (some g))
  | some ad =>
    have hlen : ((List.range (n * size)).map c).length = n * size := by simp
    have hget : ∀ j u, ((List.range (n * size)).map c)[j]? = some u → j < n * size ∧ u = c j := by
      intro j u h
      have hj : j < n * size := by
        rcases Nat.lt_or_ge j (n * size) with h' | h'
        · exact h'
        · rw [List.getElem?_eq_none (by rw [hlen]; exact h')] at h; cases h
      rw [List.getElem?_map, List.getElem?_range hj] at h
      exact ⟨hj, by simpa using h.symm⟩
    obtain ⟨v', w', hr, ho, hg, hiff⟩ := run_append_own (P := P) w base t ty e i z size bytes ht hi hz hsize hby hzs hsz (.slice (some ⟨g, 0, none⟩) n0 cap0) n0 xs hown ad n cap ((List.range (n * size)).map c) hlen
      (fun j u h => by
        obtain ⟨hj, rfl⟩ := hget j u h
        have hpos : 0 < n := by
          rcases Nat.eq_zero_or_pos n with h0 | h0
          · subst h0; simp at hj
          · exact h0
        have := hat hpos
        cases this
        rw [addr_add]; exact hc j hj)
      (fun u hu => by obtain ⟨j, hj, rfl⟩ := List.mem_map.1 hu; exact h1 j (List.mem_range.1 hj)) hn hbytes hbase
    have ho' := ho
    obtain ⟨_, ⟨rfl, _⟩ | ⟨q, cap', cur, rfl, _⟩⟩ := ho'
    · cases (hiff.1 rfl).1
    · exact ⟨q, cap', w', hr, ho, hg⟩
theorem wpList_own_some {P : Program} (w : World) {ops : Array Oper} {o : Oper} {a : Act} {rest : List Oper} {Q : Exit → Act → World → Prop} (hgd : o.guard = none) (s x : Operand) (t : TypeId)
    (ho : o.op = .call { callee := .builtin .append, args := #[s, x], argTypes := #[t, t] })
    (e : TypeId) (i : TypeInfo) (z : Value) (size bytes : Nat) (ht : P.underlying t = some (.slice e)) (hi : P.info? e = some i) (hz : i.zero = some z) (hsize : i.size = size) (hby : i.bytes = bytes) (hzs : z.cells.size = size) (hsz : 0 < size)
    (base g n0 cap0 : Nat) (xs : List Value) (hown : w.ownsRow base e size (.slice (some ⟨g, 0, none⟩) n0 cap0) n0 xs) (hs : a.eval s = .slice (some ⟨g, 0, none⟩) n0 cap0) (aa : Option Addr) (b off n cap : Nat) (hx : a.eval x = .slice aa n cap) (hat : At aa n b off) (hn : n0 + n ≤ maxLen) (hbytes : (n0 + n) * bytes ≤ 140737488355328) (c : Nat → Value) (hc : ∀ j, j < n * size → w.cell? ⟨b, off + j, none⟩ = some (c j)) (h1 : ∀ j, j < n * size → (c j).oneCell' = true) (hbase : base ≤ w.heap.size)
    (h : ∀ g' cap' w', w'.ownsRow base e size (.slice (some ⟨g', 0, none⟩) (n0 + n) cap') (n0 + n) (xs ++ (List.range (n * size)).map c) → w.grownBy w' (some g) → wpList P ops Q rest (a.put o.dst (.slice (some ⟨g', 0, none⟩) (n0 + n) cap')) w') : wpList P ops Q (o :: rest) a w := by
  refine wpList_plain hgd fun K hK => ?_
  obtain ⟨g', cap', w', hr, h2, h3⟩ := own_some_run (P := P) w t o.type e i z size bytes ht hi hz hsize hby hzs hsz base g n0 cap0 xs hown aa b off n cap hat hn hbytes c hc h1 hbase
  unfold Oper.wp execOp
  simp only [ho, resolve, invoke, builtin, Sem.run_bind, Sem.run_pure, Result.andThen_ok, List.map_toArray, List.map_cons, List.map_nil, hs, hx, hr]
  exact hK _ _ (h g' cap' w' h2 h3)

/-- Two rows behind each other: as statements. -/
theorem own_two {w w' : World} {a : Option Addr} {n cap : Nat} {l : List ST} {b off : Nat} {f g h : Nat → Value} (hs : SRow w a n cap l b off f g h)
    {a2 : Option Addr} {n2 cap2 : Nat} {l2 : List ST} {b2 off2 : Nat} {f2 g2 h2 : Nat → Value} (hs2 : SRow w a2 n2 cap2 l2 b2 off2 f2 g2 h2) (hb : Below w.heap.size w w') {base : Nat} {v : Value}
    (ho : w'.ownsRow base 38 6 v (n + n2) ((List.range (n * 6)).map (rowC l f g h) ++ (List.range (n2 * 6)).map (rowC l2 f2 g2 h2))) : SSl w' v (l ++ l2) := by
  have hl := hs.len
  have hl2 := hs2.len
  subst hl hl2
  obtain ⟨_, ⟨rfl, h0⟩ | ⟨q, cap', cur, rfl, _, hk, hn, hm, hsz, ht⟩⟩ := ho
  · have e1 : l = [] := List.eq_nil_of_length_eq_zero (by omega)
    have e2 : l2 = [] := List.eq_nil_of_length_eq_zero (by omega)
    subst e1 e2
    exact SSl.nil w'
  have hc : ∀ j, j < (l.length + l2.length) * 6 → w'.cell? ⟨q, j, none⟩ = ((List.range (l.length * 6)).map (rowC l f g h) ++ (List.range (l2.length * 6)).map (rowC l2 f2 g2 h2))[j]? := by
    intro j hj
    rw [cell_of_heap hk, ← ht, List.getElem?_take, if_pos hj]; simp
  have hlt : ∀ j, j < l.length * 6 → w'.cell? ⟨q, j, none⟩ = some (rowC l f g h j) := by
    intro j hj
    rw [hc j (by omega), List.getElem?_append_left (by simpa using hj), List.getElem?_map, List.getElem?_range hj]; rfl
  have hge : ∀ j, j < l2.length * 6 → w'.cell? ⟨q, l.length * 6 + j, none⟩ = some (rowC l2 f2 g2 h2 j) := by
    intro j hj
    rw [hc _ (by omega), List.getElem?_append_right (by simp)]
    have : l.length * 6 + j - ((List.range (l.length * 6)).map (rowC l f g h)).length = j := by simp
    rw [this, List.getElem?_map, List.getElem?_range hj]; rfl
  have hL : (l ++ l2).length = l.length + l2.length := by simp
  have hg1 : ∀ i, i < l.length → (l ++ l2).getD i default = l.getD i default := fun i hi => by
    rw [List.getD_eq_getElem?_getD, List.getElem?_append_left hi, ← List.getD_eq_getElem?_getD]
  have hg2 : ∀ i, l.length ≤ i → (l ++ l2).getD i default = l2.getD (i - l.length) default := fun i hi => by
    rw [List.getD_eq_getElem?_getD, List.getElem?_append_right hi, ← List.getD_eq_getElem?_getD]
  have key := SSl.mk (w := w') (some ⟨q, 0, none⟩) q 0 cap' (l ++ l2) (fun i => if i < l.length then f i else f2 (i - l.length)) (fun i => if i < l.length then g i else g2 (i - l.length)) (fun i => if i < l.length then h i else h2 (i - l.length)) (fun _ => rfl) (by omega) hm
    (fun i hi => by
      rw [hL] at hi
      simp only [Nat.zero_add]
      rcases Nat.lt_or_ge i l.length with hi' | hi'
      · rw [hg1 i hi', if_pos hi', if_pos hi', if_pos hi']
        obtain ⟨r0, r1, r2, r3, r4, r5⟩ := rowC_at l f g h i
        exact ⟨(hlt _ (by omega)).trans (by rw [r0]), (hlt _ (by omega)).trans (by rw [r1]), (hlt _ (by omega)).trans (by rw [r2]), (hlt _ (by omega)).trans (by rw [r3]), (hlt _ (by omega)).trans (by rw [r4]), (hlt _ (by omega)).trans (by rw [r5])⟩
      · rw [hg2 i hi', if_neg (by omega), if_neg (by omega), if_neg (by omega)]
        obtain ⟨k, rfl⟩ : ∃ k, i = l.length + k := ⟨i - l.length, by omega⟩
        have ek : l.length + k - l.length = k := by omega
        have em : (l.length + k) * 6 = l.length * 6 + k * 6 := by omega
        rw [ek, em]
        obtain ⟨r0, r1, r2, r3, r4, r5⟩ := rowC_at l2 f2 g2 h2 k
        simp only [Nat.add_assoc]
        exact ⟨(hge _ (by omega)).trans (by rw [r0]), (hge _ (by omega)).trans (by rw [r1]), (hge _ (by omega)).trans (by rw [r2]), (hge _ (by omega)).trans (by rw [r3]), (hge _ (by omega)).trans (by rw [r4]), (hge _ (by omega)).trans (by rw [r5])⟩)
    (fun i hi => by
      rw [hL] at hi
      rcases Nat.lt_or_ge i l.length with hi' | hi'
      · rw [hg1 i hi', if_pos hi']; exact (hs.es i hi').stay hb
      · rw [hg2 i hi', if_neg (by omega)]; exact (hs2.es _ (by omega)).stay hb)
    (fun i hi => by
      rw [hL] at hi
      rcases Nat.lt_or_ge i l.length with hi' | hi'
      · rw [hg1 i hi', if_pos hi']; exact (hs.bs i hi').stay hb
      · rw [hg2 i hi', if_neg (by omega)]; exact (hs2.bs _ (by omega)).stay hb)
    (fun i hi => by
      rw [hL] at hi
      rcases Nat.lt_or_ge i l.length with hi' | hi'
      · rw [hg1 i hi', if_pos hi']; exact (hs.xs i hi').stay hb
      · rw [hg2 i hi', if_neg (by omega)]; exact (hs2.xs _ (by omega)).stay hb)
  rwa [hL] at key
end Go.Proofs.YtplckmpamekloaaDoor
