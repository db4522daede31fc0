/- append of whatever slice to a row of one's own: no element, or nil, too. -/
import Derived.Test.YthjjcmmonjajhaaDoorScopePure
import Derived.Deep.AppendSrc
namespace Go.Proofs.YthjjcmmonjajhaaDoor
open Go.RowKit Go.Sort
set_option linter.unusedVariables false

theorem run_append_any {P : Program} (w : World) (base : Nat) (t ty e : TypeId) (i : TypeInfo) (z : Value) (size bytes : Nat) (ht : P.underlying t = some (.slice e)) (hi : P.info? e = some i) (hz : i.zero = some z) (hsize : i.size = size) (hby : i.bytes = bytes) (hzs : z.cells.size = size) (hsz : 0 < size)
    (v : Value) (n : Nat) (xs : List Value) (hown : w.ownsRow base e size v n xs) (aa : Option Addr) (b off m cap : Nat) (hat : At aa m b off) (news : List Value) (hl : news.length = m * size) (hnews : ∀ j u, news[j]? = some u → w.cell? ⟨b, off + j, none⟩ = some u) (h1 : ∀ u ∈ news, u.oneCell' = true)
    (h63 : n + m ≤ maxLen) (hbytes : (n + m) * bytes ≤ 140737488355328) (hbase : base ≤ w.heap.size) :
    ∃ v' w', (Builtin.append_ #[t, t] ty #[v, .slice aa m cap]).run P w = .ok v' w' ∧ w'.ownsRow base e size v' (n + m) (xs ++ news) ∧ w.grownBy w' v.ownBlock := by
  cases aa with
  | some ad =>
    obtain ⟨v', w', hr, ho, hg, _⟩ := run_append_own (P := P) w base t ty e i z size bytes ht hi hz hsize hby hzs hsz v n xs hown ad m cap news hl
      (fun j u h => by
        have hj : j < news.length := (List.getElem?_eq_some_iff.1 h).1
        have hpos : 0 < m := by
          rcases Nat.eq_zero_or_pos m with h0 | h0
          · subst h0; rw [hl] at hj; simp at hj
          · exact h0
        have := hat hpos
        cases this
        rw [addr_add0]; exact hnews j u h) h1 h63 hbytes hbase
    exact ⟨v', w', hr, ho, hg⟩
  | none =>
    have hm : m = 0 := by
      rcases Nat.eq_zero_or_pos m with h | h
      · exact h
      · cases hat h
    subst hm
    have hn : news = [] := List.eq_nil_of_length_eq_zero (by simpa using hl)
    subst hn
    subst hsize
    rcases hown with ⟨hxl, ⟨rfl, rfl⟩ | ⟨g, cp, cur, rfl, hbg, hg, hnc, hcm, hcs, htake⟩⟩
    · have hx : xs = [] := List.eq_nil_of_length_eq_zero (by simpa using hxl)
      subst hx
      refine ⟨.slice none 0 0, w, ?_, World.ownsRow_nil w base e i.size, ⟨rfl, rfl, rfl, Nat.le_refl _, fun _ _ _ => rfl⟩⟩
      simp [Builtin.append_, run_underlying ht, sizeOf, typeInfo, hi, Builtin.lenOf, Builtin.firstCells]
    · have := run_append_room_src (P := P) w t t ty e i ht hi g 0 n cp (.slice none 0 cap) 0 [] (Src.ofNil w ht cap) (by omega) (fun j hj => by simp at hj) (fun j hj => by simp at hj)
      refine ⟨_, _, this, ?_, ?_⟩
      · rw [List.append_nil]
        exact (⟨hxl, .inr ⟨g, cp, cur, rfl, hbg, hg, hnc, hcm, hcs, htake⟩⟩ : w.ownsRow base e i.size (.slice (some ⟨g, 0, none⟩) n cp) n xs)
      · exact (⟨rfl, rfl, rfl, Nat.le_refl _, fun _ _ _ => rfl⟩ : w.grownBy w (some g))
theorem wpList_append_any {P : Program} (w : World) {ops : Array Oper} {o : Oper} {a : Act} {rest : List Oper} {Q : Exit → Act → World → Prop} (hgd : o.guard = none) (s x : Operand) (t : TypeId)
    (ho : o.op = .call { callee := .builtin .append, args := #[s, x], argTypes := #[t, t] })
    (base : Nat) (e : TypeId) (i : TypeInfo) (z : Value) (size bytes : Nat) (ht : P.underlying t = some (.slice e)) (hi : P.info? e = some i) (hz : i.zero = some z) (hsize : i.size = size) (hby : i.bytes = bytes) (hzs : z.cells.size = size) (hsz : 0 < size)
    (v : Value) (n : Nat) (xs : List Value) (hs : a.eval s = v) (hown : w.ownsRow base e size v n xs) (aa : Option Addr) (b off m cap : Nat) (hx : a.eval x = .slice aa m cap) (hat : At aa m b off) (news : List Value) (hl : news.length = m * size) (hnews : ∀ j u, news[j]? = some u → w.cell? ⟨b, off + j, none⟩ = some u) (h1 : ∀ u ∈ news, u.oneCell' = true)
    (h63 : n + m ≤ maxLen) (hbytes : (n + m) * bytes ≤ 140737488355328) (hbase : base ≤ w.heap.size)
    (h : ∀ v' w', w'.ownsRow base e size v' (n + m) (xs ++ news) → w.grownBy w' v.ownBlock → wpList P ops Q rest (a.put o.dst v') w') : wpList P ops Q (o :: rest) a w := by
  refine wpList_plain hgd fun K hK => ?_
  obtain ⟨v', w', hr, h2, h3⟩ := run_append_any (P := P) w base t o.type e i z size bytes ht hi hz hsize hby hzs hsz v n xs hown aa b off m cap hat news hl hnews h1 h63 hbytes hbase
  unfold Oper.wp execOp
  simp only [ho, resolve, invoke, builtin, Sem.run_bind, Sem.run_pure, Result.andThen_ok, List.map_toArray, List.map_cons, List.map_nil, hs, hx, hr]
  exact hK _ _ (h v' w' h2 h3)
theorem own_empty9 (w : World) (base : Nat) (e : TypeId) (size : Nat) (hb : base ≤ w.heap.size) : (w.alloc (.cells #[] e)).ownsRow base e size (.slice (some ⟨w.heap.size, 0, none⟩) 0 0) 0 [] :=
  ⟨by simp, .inr ⟨w.heap.size, 0, #[], rfl, hb, World.alloc_heap_new w _, Nat.le_refl _, Nat.zero_le _, by simp, by simp⟩⟩
end Go.Proofs.YthjjcmmonjajhaaDoor
