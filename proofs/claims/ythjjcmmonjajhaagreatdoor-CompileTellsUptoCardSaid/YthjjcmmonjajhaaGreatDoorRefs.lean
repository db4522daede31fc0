/- append of whatever slice to a row of one's own: no element, or nil, too. append of any slice to a row of one's own, and where the row lies then. The reference's place, Slot, function, Op. The reference's moved, join: rows of instructions whose jumps go farther. The reference's with: a list with one more name, if it has it not. The reference's right: may a call be? -/
import Derived.Test.YthjjcmmonjajhaaGreatDoorScopePure
import Derived.Deep.AppendSrc
import Derived.Maps.AppendAt
import Derived.Test.YthjjcmmonjajhaaGreatDoorComps
import Derived.Test.YthjjcmmonjajhaaGreatDoorCompRep
import Derived.BigQuiet
namespace Go.Proofs.YthjjcmmonjajhaaGreatDoor
open Go.RowKit Go.Sort
set_option linter.unusedVariables false

theorem run_append_any {P : Program} (w : World) (base : Nat) (t ty e : TypeId) (i : TypeInfo) (z : Value) (size bytes : Nat) (ht : P.underlying t = some (.slice e)) (hi : P.info? e = some i) (hz : i.zero = some z) (hsize : i.size = size) (hby : i.bytes = bytes) (hzs : z.cells.size = size) (hsz : 0 < size)
    (v : Value) (n : Nat) (xs : List Value) (hown : w.ownsRow base e size v n xs) (aa : Option Addr) (b off m cap : Nat) (hat : At aa m b off) (news : List Value) (hl : news.length = m * size) (hnews : ∀ j u, news[j]? = some u → w.cell? ⟨b, off + j, none⟩ = some u) (h1 : ∀ u ∈ news, u.oneCell' = true)
    (h63 : n + m ≤ maxLen) (hbytes : (n + m) * bytes ≤ 140737488355328) (hbase : base ≤ w.heap.size) :
    ∃ v' w', (Builtin.append_ #[t, t] ty #[v, .slice aa m cap]).run P w = .ok v' w' ∧ w'.ownsRow base e size v' (n + m) (xs ++ news) ∧ w.grownBy w' v.ownBlock := by
  cases aa with
  | some ad =>
    obtain ⟨v', w', hr, ho, hg, _⟩ := run_append_own (P := P) w base t ty e i z size bytes ht hi hz hsize hby hzs hsz v n xs hown ad m cap news hl
      (fun j u h => by
        have hj : j < news.length := (List.getElem?_eq_some_iff.1 h).1
        have hpos : 0 < m := by
          rcases Nat.eq_zero_or_pos m with h0 | h0
          · subst h0; rw [hl] at hj; simp at hj
          · exact h0
        have := hat hpos
        cases this
        rw [addr_add0]; exact hnews j u h) h1 h63 hbytes hbase
    exact ⟨v', w', hr, ho, hg⟩
  | none =>
    have hm : m = 0 := by
      rcases Nat.eq_zero_or_pos m with h | h
      · exact h
      · cases hat h
    subst hm
    have hn : news = [] := List.eq_nil_of_length_eq_zero (by simpa using hl)
    subst hn
    subst hsize
    rcases hown with ⟨hxl, ⟨rfl, rfl⟩ | ⟨g, cp, cur, rfl, hbg, hg, hnc, hcm, hcs, htake⟩⟩
    · have hx : xs = [] := List.eq_nil_of_length_eq_zero (by simpa using hxl)
      subst hx
      refine ⟨.slice none 0 0, w, ?_, World.ownsRow_nil w base e i.size, ⟨rfl, rfl, rfl, Nat.le_refl _, fun _ _ _ => rfl⟩⟩
      simp [Builtin.append_, run_underlying ht, sizeOf, typeInfo, hi, Builtin.lenOf, Builtin.firstCells]
    · have := run_append_room_src (P := P) w t t ty e i ht hi g 0 n cp (.slice none 0 cap) 0 [] (Src.ofNil w ht cap) (by omega) (fun j hj => by simp at hj) (fun j hj => by simp at hj)
      refine ⟨_, _, this, ?_, ?_⟩
      · rw [List.append_nil]
        exact (⟨hxl, .inr ⟨g, cp, cur, rfl, hbg, hg, hnc, hcm, hcs, htake⟩⟩ : w.ownsRow base e i.size (.slice (some ⟨g, 0, none⟩) n cp) n xs)
      · exact (⟨rfl, rfl, rfl, Nat.le_refl _, fun _ _ _ => rfl⟩ : w.grownBy w (some g))
theorem wpList_append_any {P : Program} (w : World) {ops : Array Oper} {o : Oper} {a : Act} {rest : List Oper} {Q : Exit → Act → World → Prop} (hgd : o.guard = none) (s x : Operand) (t : TypeId)
    (ho : o.op = .call { callee := .builtin .append, args := #[s, x], argTypes := #[t, t] })
    (base : Nat) (e : TypeId) (i : TypeInfo) (z : Value) (size bytes : Nat) (ht : P.underlying t = some (.slice e)) (hi : P.info? e = some i) (hz : i.zero = some z) (hsize : i.size = size) (hby : i.bytes = bytes) (hzs : z.cells.size = size) (hsz : 0 < size)
    (v : Value) (n : Nat) (xs : List Value) (hs : a.eval s = v) (hown : w.ownsRow base e size v n xs) (aa : Option Addr) (b off m cap : Nat) (hx : a.eval x = .slice aa m cap) (hat : At aa m b off) (news : List Value) (hl : news.length = m * size) (hnews : ∀ j u, news[j]? = some u → w.cell? ⟨b, off + j, none⟩ = some u) (h1 : ∀ u ∈ news, u.oneCell' = true)
    (h63 : n + m ≤ maxLen) (hbytes : (n + m) * bytes ≤ 140737488355328) (hbase : base ≤ w.heap.size)
    (h : ∀ v' w', w'.ownsRow base e size v' (n + m) (xs ++ news) → w.grownBy w' v.ownBlock → wpList P ops Q rest (a.put o.dst v') w') : wpList P ops Q (o :: rest) a w := by
  refine wpList_plain hgd fun K hK => ?_
  obtain ⟨v', w', hr, h2, h3⟩ := run_append_any (P := P) w base t o.type e i z size bytes ht hi hz hsize hby hzs hsz v n xs hown aa b off m cap hat news hl hnews h1 h63 hbytes hbase
  unfold Oper.wp execOp
  simp only [ho, resolve, invoke, builtin, Sem.run_bind, Sem.run_pure, Result.andThen_ok, List.map_toArray, List.map_cons, List.map_nil, hs, hx, hr]
  exact hK _ _ (h v' w' h2 h3)
theorem own_empty9 (w : World) (base : Nat) (e : TypeId) (size : Nat) (hb : base ≤ w.heap.size) : (w.alloc (.cells #[] e)).ownsRow base e size (.slice (some ⟨w.heap.size, 0, none⟩) 0 0) 0 [] :=
  ⟨by simp, .inr ⟨w.heap.size, 0, #[], rfl, hb, World.alloc_heap_new w _, Nat.le_refl _, Nat.zero_le _, by simp, by simp⟩⟩
end Go.Proofs.YthjjcmmonjajhaaGreatDoor
namespace Go.Proofs.YthjjcmmonjajhaaGreatDoor
open Go.RowKit Go.Sort
set_option linter.unusedVariables false

theorem run_append_any_at {P : Program} (w : World) (base : Nat) (t ty e : TypeId) (i : TypeInfo) (z : Value) (size bytes : Nat) (ht : P.underlying t = some (.slice e)) (hi : P.info? e = some i) (hz : i.zero = some z) (hsize : i.size = size) (hby : i.bytes = bytes) (hzs : z.cells.size = size) (hsz : 0 < size)
    (v : Value) (n : Nat) (xs : List Value) (hown : w.ownsRow base e size v n xs) (aa : Option Addr) (b off m cap : Nat) (hat : At aa m b off) (news : List Value) (hl : news.length = m * size) (hnews : ∀ j u, news[j]? = some u → w.cell? ⟨b, off + j, none⟩ = some u) (h1 : ∀ u ∈ news, u.oneCell' = true)
    (h63 : n + m ≤ maxLen) (hbytes : (n + m) * bytes ≤ 140737488355328) (hbase : base ≤ w.heap.size) :
    ∃ v' w', (Builtin.append_ #[t, t] ty #[v, .slice aa m cap]).run P w = .ok v' w' ∧ w'.ownsRow base e size v' (n + m) (xs ++ news) ∧ w.grownBy w' v.ownBlock ∧ (v'.ownBlock = v.ownBlock ∨ v'.ownBlock = some w.heap.size) := by
  cases aa with
  | some ad =>
    obtain ⟨v', w', hr, ho, hg, _, h5⟩ := run_append_own_at (P := P) w base t ty e i z size bytes ht hi hz hsize hby hzs hsz v n xs hown ad m cap news hl
      (fun j u h => by
        have hj : j < news.length := (List.getElem?_eq_some_iff.1 h).1
        have hpos : 0 < m := by
          rcases Nat.eq_zero_or_pos m with h0 | h0
          · subst h0; rw [hl] at hj; simp at hj
          · exact h0
        have := hat hpos
        cases this
        rw [addr_add0]; exact hnews j u h) h1 h63 hbytes hbase
    exact ⟨v', w', hr, ho, hg, h5⟩
  | none =>
    have hm : m = 0 := by
      rcases Nat.eq_zero_or_pos m with h | h
      · exact h
      · cases hat h
    subst hm
    have hn : news = [] := List.eq_nil_of_length_eq_zero (by simpa using hl)
    subst hn
    subst hsize
    rcases hown with ⟨hxl, ⟨rfl, rfl⟩ | ⟨g, cp, cur, rfl, hbg, hg, hnc, hcm, hcs, htake⟩⟩
    · have hx : xs = [] := List.eq_nil_of_length_eq_zero (by simpa using hxl)
      subst hx
      refine ⟨.slice none 0 0, w, ?_, World.ownsRow_nil w base e i.size, ⟨rfl, rfl, rfl, Nat.le_refl _, fun _ _ _ => rfl⟩, .inl rfl⟩
      simp [Builtin.append_, run_underlying ht, sizeOf, typeInfo, hi, Builtin.lenOf, Builtin.firstCells]
    · have := run_append_room_src (P := P) w t t ty e i ht hi g 0 n cp (.slice none 0 cap) 0 [] (Src.ofNil w ht cap) (by omega) (fun j hj => by simp at hj) (fun j hj => by simp at hj)
      refine ⟨_, _, this, ?_, ?_, .inl rfl⟩
      · rw [List.append_nil]
        exact (⟨hxl, .inr ⟨g, cp, cur, rfl, hbg, hg, hnc, hcm, hcs, htake⟩⟩ : w.ownsRow base e i.size (.slice (some ⟨g, 0, none⟩) n cp) n xs)
      · exact (⟨rfl, rfl, rfl, Nat.le_refl _, fun _ _ _ => rfl⟩ : w.grownBy w (some g))
theorem wpList_append_any_at {P : Program} (w : World) {ops : Array Oper} {o : Oper} {a : Act} {rest : List Oper} {Q : Exit → Act → World → Prop} (hgd : o.guard = none) (s x : Operand) (t : TypeId)
    (ho : o.op = .call { callee := .builtin .append, args := #[s, x], argTypes := #[t, t] })
    (base : Nat) (e : TypeId) (i : TypeInfo) (z : Value) (size bytes : Nat) (ht : P.underlying t = some (.slice e)) (hi : P.info? e = some i) (hz : i.zero = some z) (hsize : i.size = size) (hby : i.bytes = bytes) (hzs : z.cells.size = size) (hsz : 0 < size)
    (v : Value) (n : Nat) (xs : List Value) (hs : a.eval s = v) (hown : w.ownsRow base e size v n xs) (aa : Option Addr) (b off m cap : Nat) (hx : a.eval x = .slice aa m cap) (hat : At aa m b off) (news : List Value) (hl : news.length = m * size) (hnews : ∀ j u, news[j]? = some u → w.cell? ⟨b, off + j, none⟩ = some u) (h1 : ∀ u ∈ news, u.oneCell' = true)
    (h63 : n + m ≤ maxLen) (hbytes : (n + m) * bytes ≤ 140737488355328) (hbase : base ≤ w.heap.size)
    (h : ∀ v' w', w'.ownsRow base e size v' (n + m) (xs ++ news) → w.grownBy w' v.ownBlock → (v'.ownBlock = v.ownBlock ∨ v'.ownBlock = some w.heap.size) → wpList P ops Q rest (a.put o.dst v') w') : wpList P ops Q (o :: rest) a w := by
  refine wpList_plain hgd fun K hK => ?_
  obtain ⟨v', w', hr, h2, h3, h4⟩ := run_append_any_at (P := P) w base t o.type e i z size bytes ht hi hz hsize hby hzs hsz v n xs hown aa b off m cap hat news hl hnews h1 h63 hbytes hbase
  unfold Oper.wp execOp
  simp only [ho, resolve, invoke, builtin, Sem.run_bind, Sem.run_pure, Result.andThen_ok, List.map_toArray, List.map_cons, List.map_nil, hs, hx, hr]
  exact hK _ _ (h v' w' h2 h3 h4)
end Go.Proofs.YthjjcmmonjajhaaGreatDoor
namespace Go.Proofs.YthjjcmmonjajhaaGreatDoor
open Go.RowKit Go.Sort
set_option linter.unusedVariables false

theorem beq_swap9 (a b : List UInt8) : (a == b) = (b == a) := by
  by_cases h : a = b
  · rw [h]
  · rw [beq_eq_false_iff_ne.2 h, beq_eq_false_iff_ne.2 (fun e => h e.symm)]
set_option maxHeartbeats 2000000 in
set_option maxRecDepth 1000000 in
theorem place_r (v : Value) (l : List ByteArray) (s : ByteArray) (w : World) (h : TSl w v l) (q : Int) (hq : slotI l s = q) :
    Calls Tryz.prog 73 #[v, .string s] w fun e w' => e = .returned (.int .i64 q) ∧ w' = w := by
  cases h with
  | mk a b off cap l ha hc hm hcell =>
  have HA := Lib.hid ha
  have HI := Lib.hid hcell
  have HQ := Lib.hid hq
  have hm1 : cap ≤ 9223372036854775807 := hm
  clear ha hcell hq hm
  go_enter Tryz.func73, Tryz.ntmps73
  go_wp2
  go_loopw [5] (fun i wr => ∃ k : Nat, i = .int .i64 k ∧ k ≤ l.length ∧ wr = w ∧ Hid (∀ i, i < k → (s.toList == (l.getD i ByteArray.empty).toList) = false)) (fun i _ => l.length - (intOf i).toNat)
  case atStart => exact ⟨0, rfl, by omega, rfl, fun i hi => absurd hi (by omega)⟩
  case round =>
    obtain ⟨k, rfl, hk, rfl, HA'⟩ := hrel
    by_cases hlt : k < l.length
    · obtain rfl := HA.out (by omega)
      have hcell := HI.out k hlt
      obtain ⟨x, hx⟩ : ∃ x, l.getD k ByteArray.empty = x := ⟨_, rfl⟩
      rw [hx] at hcell
      obtain ⟨t, ht⟩ : ∃ t, (x.toList == s.toList) = t := ⟨_, rfl⟩
      have HX := Lib.hid hx
      have HT : Hid ((s.toList == x.toList) = t) := (beq_swap9 _ _).trans ht
      clear hx
      cases t with
      | true =>
        go_wp2
        go_ret
        obtain rfl : (k : Int) = q := by rw [← HQ.out]; exact (firstI_at hlt (by rw [HX.out]; exact HT.out) HA'.out).symm
        exact ⟨rfl, rfl⟩
      | false =>
        go_wp2
        go_roundw
        case rel =>
          refine ⟨k + 1, by go_num, by omega, trivial, fun i hi => ?_⟩
          rcases Nat.lt_or_ge i k with h | h
          · exact HA'.out i h
          · obtain rfl : i = k := by omega
            rw [HX.out]; exact HT.out
        case measure => simp [intOf]; omega
    · obtain rfl : k = l.length := by omega
      go_wp2
      go_ret
      obtain rfl : (-1 : Int) = q := by rw [← HQ.out]; exact (firstI_no HA'.out).symm
      exact ⟨rfl, rfl⟩
set_option maxHeartbeats 2000000 in
set_option maxRecDepth 1000000 in
theorem rslot_r (v : Value) (l : List ByteArray) (s : ByteArray) (w : World) (h : TSl w v l) (q : Int) (hq : slotI l s = q) :
    Calls Tryz.prog 42 #[v, .string s] w fun e w' => e = .returned (.int .i64 q) ∧ w' = w := by
  cases h with
  | mk a b off cap l ha hc hm hcell =>
  have HA := Lib.hid ha
  have HI := Lib.hid hcell
  have HQ := Lib.hid hq
  have hm1 : cap ≤ 9223372036854775807 := hm
  clear ha hcell hq hm
  go_enter Tryz.func42, Tryz.ntmps42
  go_wp2
  go_loopw [5] (fun i wr => ∃ k : Nat, i = .int .i64 k ∧ k ≤ l.length ∧ wr = w ∧ Hid (∀ i, i < k → (s.toList == (l.getD i ByteArray.empty).toList) = false)) (fun i _ => l.length - (intOf i).toNat)
  case atStart => exact ⟨0, rfl, by omega, rfl, fun i hi => absurd hi (by omega)⟩
  case round =>
    obtain ⟨k, rfl, hk, rfl, HA'⟩ := hrel
    by_cases hlt : k < l.length
    · obtain rfl := HA.out (by omega)
      have hcell := HI.out k hlt
      obtain ⟨x, hx⟩ : ∃ x, l.getD k ByteArray.empty = x := ⟨_, rfl⟩
      rw [hx] at hcell
      obtain ⟨t, ht⟩ : ∃ t, (x.toList == s.toList) = t := ⟨_, rfl⟩
      have HX := Lib.hid hx
      have HT : Hid ((s.toList == x.toList) = t) := (beq_swap9 _ _).trans ht
      clear hx
      cases t with
      | true =>
        go_wp2
        go_ret
        obtain rfl : (k : Int) = q := by rw [← HQ.out]; exact (firstI_at hlt (by rw [HX.out]; exact HT.out) HA'.out).symm
        exact ⟨rfl, rfl⟩
      | false =>
        go_wp2
        go_roundw
        case rel =>
          refine ⟨k + 1, by go_num, by omega, trivial, fun i hi => ?_⟩
          rcases Nat.lt_or_ge i k with h | h
          · exact HA'.out i h
          · obtain rfl : i = k := by omega
            rw [HX.out]; exact HT.out
        case measure => simp [intOf]; omega
    · obtain rfl : k = l.length := by omega
      go_wp2
      go_ret
      obtain rfl : (-1 : Int) = q := by rw [← HQ.out]; exact (firstI_no HA'.out).symm
      exact ⟨rfl, rfl⟩
set_option maxHeartbeats 4000000 in
set_option maxRecDepth 1000000 in
theorem function_r (v : Value) (l : List SC) (s : ByteArray) (w : World) (h : CSl w v l) (hl : 0 < l.length) (q : Int) (hq : findI l s = q) :
    Calls Tryz.prog 88 #[v, .string s] w fun e w' => e = .returned (.int .i64 q) ∧ w' = w := by
  cases h with
  | mk a b off cap l f g ha hc hm hcell h1 h2 =>
  have HA := Lib.hid ha
  have HI := Lib.hid hcell
  have HQ := Lib.hid hq
  have hm1 : cap ≤ 9223372036854775807 := hm
  clear ha hcell hq hm h1 h2
  go_enter Tryz.func88, Tryz.ntmps88
  go_wp2
  go_loopw [5] (fun i wr => ∃ k : Nat, i = .int .i64 k ∧ 0 < k ∧ k ≤ l.length ∧ wr = w ∧ Hid (∀ i, i < k → (decide (0 < i) && ((l.getD i default).name.toList == s.toList)) = false)) (fun i _ => l.length - (intOf i).toNat)
  case atStart => 
    refine ⟨1, rfl, by omega, by omega, rfl, fun i hi => ?_⟩
    obtain rfl : i = 0 := by omega
    rfl
  case round =>
    obtain ⟨k, rfl, hk0, hk, rfl, HA'⟩ := hrel
    by_cases hlt : k < l.length
    · obtain rfl := HA.out (by omega)
      obtain ⟨e0, _, _, _⟩ := HI.out k hlt
      obtain ⟨x, hx⟩ : ∃ x, (l.getD k default).name = x := ⟨_, rfl⟩
      rw [hx] at e0
      obtain ⟨t, ht⟩ : ∃ t, (x.toList == s.toList) = t := ⟨_, rfl⟩
      have HX := Lib.hid hx
      have HT := Lib.hid ht
      clear hx
      cases t with
      | true =>
        go_wp2
        go_ret
        obtain rfl : (k : Int) = q := by rw [← HQ.out]; exact (firstI_at hlt (by rw [HX.out, HT.out, decide_eq_true (show 0 < k by omega)]; rfl) HA'.out).symm
        exact ⟨rfl, rfl⟩
      | false =>
        go_wp2
        go_roundw
        case rel =>
          refine ⟨k + 1, by go_num, by omega, by omega, trivial, fun i hi => ?_⟩
          rcases Nat.lt_or_ge i k with h | h
          · exact HA'.out i h
          · obtain rfl : i = k := by omega
            rw [HX.out, HT.out, Bool.and_false]
        case measure => simp [intOf]; omega
    · obtain rfl : k = l.length := by omega
      go_wp2
      go_ret
      obtain rfl : (-1 : Int) = q := by rw [← HQ.out]; exact (firstI_no HA'.out).symm
      exact ⟨rfl, rfl⟩
set_option maxHeartbeats 2000000 in
theorem op_r (o : Int) (w : World) (h1 : 6 ≤ o) (h2 : o ≤ 16) :
    Calls Tryz.prog 89 #[.int .i64 o] w fun e w' => e = .returned (.int .i64 (o - 2)) ∧ w' = w := by
  go_enter Tryz.func89, Tryz.ntmps89
  go_wp2
  go_ret
  exact ⟨rfl, rfl⟩
end Go.Proofs.YthjjcmmonjajhaaGreatDoor
namespace Go.Proofs.YthjjcmmonjajhaaGreatDoor
open Go.RowKit Go.Sort
set_option linter.unusedVariables false

theorem infoIR : (Tryz.prog.info? 47).map (fun i => (i.zero, i.size, i.bytes)) = some (some (.agg #[.int .i64 0, .int .i64 0, .int .i64 0]), 3, 24) := by kernel_rfl
theorem below_own9 {B : Nat} {w0 w w' : World} {e : TypeId} {size n : Nat} {v : Value} {xs : List Value} (hb : Below B w0 w) (hB : B ≤ w.heap.size) (ho : w.ownsRow B e size v n xs) (hg : w.grownBy w' v.ownBlock) : Below B w0 w' :=
  hb.grown hg hB (fun r e => (ho.lt r e).1)
/-- A row of instructions of one's own. -/
def OwnI (base : Nat) (w : World) (v : Value) (l : List VI) : Prop := w.ownsRow base 47 3 v l.length (insR l)
theorem OwnI.isl {base : Nat} {w : World} {v : Value} {l : List VI} (h : OwnI base w v l) (hs : l.length ≤ 17592186044416) : ISl w v l := own_isl hs h
theorem OwnI.shape {base : Nat} {w : World} {v : Value} {l : List VI} (h : OwnI base w v l) : ∃ a c, v = .slice a l.length c := own_shape h
theorem OwnI.stay {base : Nat} {w w' : World} {v : Value} {l : List VI} (h : OwnI base w v l) (hb : Below w.heap.size w w') : OwnI base w' v l := own_hold9 h hb
theorem OwnI.lower {base b' : Nat} {w : World} {v : Value} {l : List VI} (h : OwnI base w v l) (hb : b' ≤ base) : OwnI b' w v l := by
  obtain ⟨hl, ⟨h1, h2⟩ | ⟨g, cap, cur, h1, h2, h3⟩⟩ := h
  · exact ⟨hl, .inl ⟨h1, h2⟩⟩
  · exact ⟨hl, .inr ⟨g, cap, cur, h1, Nat.le_trans hb h2, h3⟩⟩
/-- .. while a row elsewhere is written. -/
theorem OwnI.apart {base : Nat} {w w' : World} {v : Value} {l : List VI} (h : OwnI base w v l) {row : Option Nat} (hg : w.grownBy w' row) (hne : ∀ k, row = some k → v.ownBlock ≠ some k) : OwnI base w' v l := by
  refine h.kept hg ?_
  cases hr : v.ownBlock with
  | none => exact .inl rfl
  | some k => exact .inr (fun e => hne k e.symm hr)
/-- An instruction whose jump goes so much farther. -/
def shift (k : Int) (i : VI) : VI := if i.op = 15 ∨ i.op = 16 then ⟨i.op, i.a + k, i.n⟩ else i
def shiftL (k : Int) (l : List VI) : List VI := l.map (shift k)
/-- Jumps of a row are no farther than so far. -/
def JumpsTo (m : Int) (l : List VI) : Prop := ∀ i ∈ l, (i.op = 15 ∨ i.op = 16) → 0 ≤ i.a ∧ i.a ≤ m
theorem insR_one (i : VI) : insR [i] = [.int .i64 i.op, .int .i64 i.a, .int .i64 i.n] := by simp [insR, insC]
theorem shiftL_take (k : Int) (l : List VI) (j : Nat) (h : j < l.length) : (shiftL k l).take (j + 1) = (shiftL k l).take j ++ [shift k (l.getD j default)] := by
  unfold shiftL
  rw [← List.map_take, ← List.map_take, take_next l default j h, List.map_append]; rfl
theorem shiftL_len (k : Int) (l : List VI) : (shiftL k l).length = l.length := by unfold shiftL; simp
theorem cell3_new (w : World) (a b c : Value) (t : TypeId) : ∀ j u, ([a, b, c] : List Value)[j]? = some u → (w.alloc (.cells #[a, b, c] t)).cell? ((⟨w.heap.size, 0, none⟩ : Addr).add j) = some u := by
  intro j u h
  rw [addr_add0, Nat.zero_add]
  have := cell_of_heap (heap_alloc_new w (.cells #[a, b, c] t)) j
  rw [this]; simpa using h

set_option maxHeartbeats 8000000 in
set_option maxRecDepth 1000000 in
theorem moved_r (a0 : Option Addr) (n0 c0 : Nat) (l : List VI) (k m : Int) (hk0 : 0 ≤ k) (hk : k ≤ 1000000000) (hm : m ≤ 1000000000) (hj : JumpsTo m l) (hl : l.length ≤ 100000000) (w : World) (h : ISl w (.slice a0 n0 c0) l) :
    Calls Tryz.prog 74 #[.slice a0 n0 c0, .int .i64 k] w fun e w' => ∃ v, e = .returned v ∧ Below w.heap.size w w' ∧ OwnI w.heap.size w' v (shiftL k l) := by
  obtain ⟨iT, hi, hz0, hz1, hz2⟩ := info_parts infoIR
  generalize hv : Value.slice a0 n0 c0 = v at h
  cases h with
  | mk a b off cap l ha hc hmx hs hcell =>
  cases hv
  have HA := Lib.hid ha
  have HI := Lib.hid hcell
  have HJ := Lib.hid hj
  have hm1 : c0 ≤ 9223372036854775807 := hmx
  clear ha hcell hj hmx
  go_enter Tryz.func74, Tryz.ntmps74
  go_wp2
  go_loopw [5, 6] (fun v i wr => ∃ j : Nat, i = .int .i64 j ∧ j ≤ l.length ∧ Hid (Below w.heap.size w wr) ∧ Hid (wr.ownsRow w.heap.size 47 3 v j (insR ((shiftL k l).take j)))) (fun _ i _ => l.length - (intOf i).toNat)
  case atStart => exact ⟨0, rfl, Nat.zero_le _, (Below.refl _ _).alloc (Nat.le_refl _) _, own_empty9 _ _ _ _ (Nat.le_refl _)⟩
  case round =>
    obtain ⟨j, rfl, hjl, HB, HO⟩ := hrel
    by_cases hlt : j < l.length
    · obtain rfl := HA.out (by omega)
      obtain ⟨e0, e1, e2⟩ := HI.out j hlt
      have hz : b < w.heap.size := lt_of_cell e0
      replace e0 := (HB.out.cell (p := ⟨b, off + j * 3, none⟩) hz).trans e0
      replace e1 := (HB.out.cell (p := ⟨b, off + j * 3 + 1, none⟩) hz).trans e1
      replace e2 := (HB.out.cell (p := ⟨b, off + j * 3 + 2, none⟩) hz).trans e2
      have hT := shiftL_take k l j hlt
      have hJ := HJ.out (l.getD j default) (by rw [List.getD_eq_getElem?_getD, List.getElem?_eq_getElem hlt]; exact List.getElem_mem _)
      generalize l.getD j default = x at e0 e1 e2 hT hJ
      obtain ⟨xo, xa, xn⟩ := x
      dsimp only at e0 e1 e2 hJ
      have HJX := Lib.hid hJ
      have HT := Lib.hid hT
      clear hz hT hJ
      have hc3 : (xo = 15) ∨ ((xo == 15) = false ∧ xo = 16) ∨ ((xo == 15) = false ∧ (xo == 16) = false ∧ xo ≠ 15 ∧ xo ≠ 16) := by
        by_cases h1 : xo = 15
        · exact .inl h1
        · by_cases h2 : xo = 16
          · exact .inr (.inl ⟨by simpa using h1, h2⟩)
          · exact .inr (.inr ⟨by simpa using h1, by simpa using h2, h1, h2⟩)
      rcases hc3 with rfl | ⟨h1, rfl⟩ | ⟨h1, h2, h3, h4⟩
      · obtain ⟨q1, q2⟩ := HJX.out (.inl rfl)
        have HC := Lib.hid (cell3_new (wr.alloc (.cells #[.int .i64 15, .int .i64 (xa + k), .int .i64 xn] 47)) (.int .i64 15) (.int .i64 (xa + k)) (.int .i64 xn) 47)
        rw [World.size_alloc] at HC
        have HOA := Lib.hid ((HO.out.alloc (.cells #[.int .i64 15, .int .i64 (xa + k), .int .i64 xn] 47)).alloc (.cells #[.int .i64 15, .int .i64 (xa + k), .int .i64 xn] 47))
        have HBA : Hid (Below w.heap.size w ((wr.alloc (.cells #[.int .i64 15, .int .i64 (xa + k), .int .i64 xn] 47)).alloc (.cells #[.int .i64 15, .int .i64 (xa + k), .int .i64 xn] 47))) := hb_alloc (hb_alloc HB _) _
        go_wp2_with (at_builtin; refine wpList_append_own _ rfl _ _ 42 rfl w.heap.size 47 iT (.agg #[.int .i64 0, .int .i64 0, .int .i64 0]) 3 24 Tryz.underlying42 hi hz0 hz1 hz2 rfl (by decide) _ _ _ rfl HOA.out ⟨wr.heap.size + 1, 0, none⟩ 1 1 [.int .i64 15, .int .i64 (xa + k), .int .i64 xn] rfl rfl HC.out (by simp [Value.oneCell']) (by unfold maxLen; omega) (by omega) HBA.out.size ?_; intro v' w3 hown' hgrow _; obtain ⟨g', cap', rfl⟩ := ownsRow_succ' hown'; have HO3 := Lib.hid hown'; have HB3 : Hid (Below w.heap.size w w3) := below_own9 HBA.out HBA.out.size HOA.out hgrow; clear hown' hgrow)
        go_roundw
        case rel => exact ⟨j + 1, by go_num, by omega, HB3, by rw [HT.out, insR_append, (show shift k ⟨15, xa, xn⟩ = ⟨15, xa + k, xn⟩ from if_pos (.inl rfl)), insR_one]; exact HO3.out⟩
        case measure => simp [intOf]; omega
      · obtain ⟨q1, q2⟩ := HJX.out (.inr rfl)
        have HC := Lib.hid (cell3_new (wr.alloc (.cells #[.int .i64 16, .int .i64 (xa + k), .int .i64 xn] 47)) (.int .i64 16) (.int .i64 (xa + k)) (.int .i64 xn) 47)
        rw [World.size_alloc] at HC
        have HOA := Lib.hid ((HO.out.alloc (.cells #[.int .i64 16, .int .i64 (xa + k), .int .i64 xn] 47)).alloc (.cells #[.int .i64 16, .int .i64 (xa + k), .int .i64 xn] 47))
        have HBA : Hid (Below w.heap.size w ((wr.alloc (.cells #[.int .i64 16, .int .i64 (xa + k), .int .i64 xn] 47)).alloc (.cells #[.int .i64 16, .int .i64 (xa + k), .int .i64 xn] 47))) := hb_alloc (hb_alloc HB _) _
        go_wp2_with (at_builtin; refine wpList_append_own _ rfl _ _ 42 rfl w.heap.size 47 iT (.agg #[.int .i64 0, .int .i64 0, .int .i64 0]) 3 24 Tryz.underlying42 hi hz0 hz1 hz2 rfl (by decide) _ _ _ rfl HOA.out ⟨wr.heap.size + 1, 0, none⟩ 1 1 [.int .i64 16, .int .i64 (xa + k), .int .i64 xn] rfl rfl HC.out (by simp [Value.oneCell']) (by unfold maxLen; omega) (by omega) HBA.out.size ?_; intro v' w3 hown' hgrow _; obtain ⟨g', cap', rfl⟩ := ownsRow_succ' hown'; have HO3 := Lib.hid hown'; have HB3 : Hid (Below w.heap.size w w3) := below_own9 HBA.out HBA.out.size HOA.out hgrow; clear hown' hgrow)
        go_roundw
        case rel => exact ⟨j + 1, by go_num, by omega, HB3, by rw [HT.out, insR_append, (show shift k ⟨16, xa, xn⟩ = ⟨16, xa + k, xn⟩ from if_pos (.inr rfl)), insR_one]; exact HO3.out⟩
        case measure => simp [intOf]; omega
      · have H34 := Lib.hid (And.intro h3 h4)
        clear h3 h4
        have HC := Lib.hid (cell3_new (wr.alloc (.cells #[.int .i64 xo, .int .i64 xa, .int .i64 xn] 47)) (.int .i64 xo) (.int .i64 xa) (.int .i64 xn) 47)
        rw [World.size_alloc] at HC
        have HOA := Lib.hid ((HO.out.alloc (.cells #[.int .i64 xo, .int .i64 xa, .int .i64 xn] 47)).alloc (.cells #[.int .i64 xo, .int .i64 xa, .int .i64 xn] 47))
        have HBA : Hid (Below w.heap.size w ((wr.alloc (.cells #[.int .i64 xo, .int .i64 xa, .int .i64 xn] 47)).alloc (.cells #[.int .i64 xo, .int .i64 xa, .int .i64 xn] 47))) := hb_alloc (hb_alloc HB _) _
        go_wp2_with (at_builtin; refine wpList_append_own _ rfl _ _ 42 rfl w.heap.size 47 iT (.agg #[.int .i64 0, .int .i64 0, .int .i64 0]) 3 24 Tryz.underlying42 hi hz0 hz1 hz2 rfl (by decide) _ _ _ rfl HOA.out ⟨wr.heap.size + 1, 0, none⟩ 1 1 [.int .i64 xo, .int .i64 xa, .int .i64 xn] rfl rfl HC.out (by simp [Value.oneCell']) (by unfold maxLen; omega) (by omega) HBA.out.size ?_; intro v' w3 hown' hgrow _; obtain ⟨g', cap', rfl⟩ := ownsRow_succ' hown'; have HO3 := Lib.hid hown'; have HB3 : Hid (Below w.heap.size w w3) := below_own9 HBA.out HBA.out.size HOA.out hgrow; clear hown' hgrow)
        go_roundw
        case rel => exact ⟨j + 1, by go_num, by omega, HB3, by rw [HT.out, insR_append, (show shift k ⟨xo, xa, xn⟩ = ⟨xo, xa, xn⟩ from if_neg (by intro h; rcases h with h | h; exact H34.out.1 h; exact H34.out.2 h)), insR_one]; exact HO3.out⟩
        case measure => simp [intOf]; omega
    · obtain rfl : j = l.length := by omega
      go_wp2
      go_ret
      have h := HO.out
      rw [List.take_of_length_le (by rw [shiftL_len]; omega)] at h
      refine ⟨_, rfl, HB.out, ?_⟩
      unfold OwnI
      rw [shiftL_len]; exact h
end Go.Proofs.YthjjcmmonjajhaaGreatDoor
namespace Go.Proofs.YthjjcmmonjajhaaGreatDoor
open Go.RowKit Go.Sort
set_option linter.unusedVariables false

theorem slot_mem (l : List ByteArray) (s : ByteArray) : (memB l s = true ∧ 0 ≤ slotI l s) ∨ (memB l s = false ∧ slotI l s = -1) := by
  unfold slotI
  rcases firstI_cases l.length (fun i => s.toList == (l.getD i ByteArray.empty).toList) with ⟨k, hk, hp, _, e⟩ | ⟨hno, e⟩
  · refine .inl ⟨?_, by rw [e]; omega⟩
    unfold memB
    refine List.any_eq_true.2 ⟨l.getD k ByteArray.empty, ?_, hp⟩
    rw [List.getD_eq_getElem?_getD, List.getElem?_eq_getElem hk]; exact List.getElem_mem _
  · refine .inr ⟨?_, e⟩
    unfold memB
    rw [List.any_eq_false]
    intro x hx
    obtain ⟨i, hi, rfl⟩ := List.mem_iff_getElem.1 hx
    have := hno i hi
    rw [List.getD_eq_getElem?_getD, List.getElem?_eq_getElem hi] at this
    simpa using this
theorem TSl.row0 {w : World} {v : Value} {l : List ByteArray} (h : TSl w v l) : ∃ a b off cap, v = .slice a l.length cap ∧ At a l.length b off ∧ l.length ≤ cap ∧ cap ≤ 9223372036854775807 ∧ ∀ i, i < l.length → w.cell? ⟨b, off + i, none⟩ = some (.string (l.getD i ByteArray.empty)) := by
  cases h with
  | mk a b off cap l ha hc hm hcell => exact ⟨a, b, off, cap, rfl, ha, hc, hm, hcell⟩

/-- A row of names of one's own. -/
def OwnS (base : Nat) (w : World) (v : Value) (l : List ByteArray) : Prop := w.ownsRow base 9 1 v l.length (l.map Value.string)
theorem OwnS.tsl {base : Nat} {w : World} {v : Value} {l : List ByteArray} (h : OwnS base w v l) : TSl w v l := own_tsl h
theorem OwnS.stay {base : Nat} {w w' : World} {v : Value} {l : List ByteArray} (h : OwnS base w v l) (hb : Below w.heap.size w w') : OwnS base w' v l := own_hold9 h hb
theorem OwnS.shape {base : Nat} {w : World} {v : Value} {l : List ByteArray} (h : OwnS base w v l) : ∃ a c, v = .slice a l.length c := own_shape h
set_option maxHeartbeats 8000000 in
set_option maxRecDepth 1000000 in
theorem with_r (base : Nat) (v : Value) (l : List ByteArray) (s : ByteArray) (hl : l.length ≤ 100000000) (w : World) (hbs : base ≤ w.heap.size) (hos : OwnS base w v l) :
    Calls Tryz.prog 43 #[v, .string s] w fun e w' => ∃ v', e = .returned v' ∧ Below w.heap.size w w' ∧ OwnS base w' v' (addL l s) := by
  have h := hos.tsl
  have HOS := Lib.hid hos
  have HBS := Lib.hid hbs
  clear hos hbs
  obtain ⟨iT, hi, hz0, hz1, hz2⟩ := info_parts infoStr
  obtain ⟨a, b, off, cap, rfl, hat, hc, hm, hcell⟩ := h.row0
  have HH := Lib.hid h
  have HAT := Lib.hid hat
  have HCE := Lib.hid hcell
  clear h hat hcell
  rcases slot_mem l s with ⟨hm1, hm2⟩ | ⟨hm1, hm2⟩
  · have hA : addL l s = l := by unfold addL; rw [if_pos hm1]
    rw [hA]
    obtain ⟨q, hq⟩ : ∃ q, slotI l s = q := ⟨_, rfl⟩
    rw [hq] at hm2
    have HQ := Lib.hid hq
    clear hq hm1
    go_enter Tryz.func43, Tryz.ntmps43
    go_wp2_with (go_at_call 42; refine (rslot_r _ l s _ HH.out _ HQ.out).mono ?_; rintro e w' ⟨rfl, hw9⟩; replace hw9 := hw9.symm; subst hw9)
    go_ret
    exact ⟨_, rfl, Below.refl _ _, HOS.out⟩
  · have hA : addL l s = l ++ [s] := by unfold addL; rw [if_neg (by rw [hm1]; decide)]
    have HAD := Lib.hid hA
    have HQ := Lib.hid hm2
    clear hA hm1 hm2
    have HO1 : Hid ((w.alloc (.cells #[] 9)).ownsRow w.heap.size 9 1 (.slice (some ⟨w.heap.size, 0, none⟩) 0 0) 0 []) := own_empty9 _ _ _ _ (Nat.le_refl _)
    have HB1 : Hid (Below w.heap.size w (w.alloc (.cells #[] 9))) := hb_alloc (hb_start w) _
    have HCE1 : Hid (∀ j u, (l.map Value.string)[j]? = some u → (w.alloc (.cells #[] 9)).cell? ⟨b, off + j, none⟩ = some u) := fun j u hj => by
      have hj' : j < l.length := by have := (List.getElem?_eq_some_iff.1 hj).1; simpa using this
      have h1 := HCE.out j hj'
      rw [List.getElem?_map, List.getElem?_eq_getElem hj'] at hj
      rw [List.getD_eq_getElem?_getD, List.getElem?_eq_getElem hj'] at h1
      have h2 := (HB1.out.cell (p := ⟨b, off + j, none⟩) (lt_of_cell h1)).trans h1
      rw [h2]; simpa using hj
    go_enter Tryz.func43, Tryz.ntmps43
    go_wp2_with (first
      | (go_at_call 42; refine (rslot_r _ l s _ HH.out _ HQ.out).mono ?_; rintro e w' ⟨rfl, hw9⟩; replace hw9 := hw9.symm; subst hw9)
      | (at_builtin; refine wpList_append_any _ rfl _ _ 59 rfl w.heap.size 9 iT (.string ⟨#[]⟩) 1 16 Tryz.underlying59 hi hz0 hz1 hz2 rfl (by decide) _ _ _ rfl HO1.out a b off l.length cap rfl HAT.out (l.map Value.string) (by simp) HCE1.out (by simp [Value.oneCell']) (by unfold maxLen; omega) (by omega) HB1.out.size ?_; intro v2 w2 hown' hgrow; have HO2 := Lib.hid hown'; have HB2 : Hid (Below w.heap.size w w2) := HB1.out.grown hgrow HB1.out.size (fun r e => (HO1.out.lt r e).1); have HOA := Lib.hid (hown'.alloc (.cells #[.string s] 9)); have HBA : Hid (Below w.heap.size w (w2.alloc (.cells #[.string s] 9))) := hb_alloc HB2 _; clear hown' hgrow HO1)
      | (at_builtin; refine wpList_append_any _ rfl _ _ 59 rfl w.heap.size 9 iT (.string ⟨#[]⟩) 1 16 Tryz.underlying59 hi hz0 hz1 hz2 rfl (by decide) _ _ _ rfl HOA.out (some ⟨w2.heap.size, 0, none⟩) w2.heap.size 0 1 1 rfl (fun _ => rfl) [.string s] rfl (fun j u hj => by have := cell_of_heap (heap_alloc_new w2 (.cells #[.string s] 9)) j; rw [Nat.zero_add, this]; simpa using hj) (by simp [Value.oneCell']) (by unfold maxLen; omega) (by omega) HBA.out.size ?_; intro v3 w3 hown' hgrow; have HO3 := Lib.hid hown'; have HB3 : Hid (Below w.heap.size w w3) := HBA.out.grown hgrow HBA.out.size (fun r e => (HOA.out.lt r e).1); clear hown' hgrow))
    go_ret
    refine ⟨_, rfl, HB3.out, ?_⟩
    rw [HAD.out]
    refine own_lower (base := w.heap.size) ?_ HBS.out
    have h := HO3.out
    rw [List.nil_append] at h
    rw [List.length_append, List.map_append, List.length_singleton, List.map_singleton]
    simpa using h
end Go.Proofs.YthjjcmmonjajhaaGreatDoor
namespace Go.Proofs.YthjjcmmonjajhaaGreatDoor
open Go.RowKit Go.Sort
set_option linter.unusedVariables false

theorem find_at {fs : List FT} {s : ByteArray} {k : Nat} (hk : k < fs.length) (hno : ∀ j, j < k → (s.toList == (fs.getD j default).name.toList) = false) (hp : (s.toList == (fs.getD k default).name.toList) = true) : paramOf fs s = some (fs.getD k default).params.length := by
  unfold paramOf
  induction fs generalizing k with
  | nil => simp at hk
  | cons f r ih =>
    cases k with
    | zero => rw [List.getD_cons_zero] at hp; rw [List.find?_cons, hp]; rfl
    | succ k =>
      have h0 := hno 0 (by omega)
      rw [List.getD_cons_zero] at h0
      rw [List.find?_cons, h0]
      simp only [List.getD_cons_succ] at hp ⊢
      exact ih (by simpa using hk) (fun j hj => by have := hno (j + 1) (by omega); simpa using this) hp
theorem find_none9 {fs : List FT} {s : ByteArray} (hno : ∀ j, j < fs.length → (s.toList == (fs.getD j default).name.toList) = false) : paramOf fs s = none := by
  unfold paramOf
  have : fs.find? (fun f => s.toList == f.name.toList) = none := by
    rw [List.find?_eq_none]
    intro f hf
    obtain ⟨i, hi, rfl⟩ := List.mem_iff_getElem.1 hf
    have := hno i hi
    rw [List.getD_eq_getElem?_getD, List.getElem?_eq_getElem hi] at this
    simpa using this
  rw [this]; rfl

set_option maxHeartbeats 8000000 in
set_option maxRecDepth 1000000 in
theorem ruright_r (a1 a2 : Option Addr) (n1 n2 k1 k2 : Nat) (p : PT) (kd : Int) (m : Nat) (s : ByteArray) (hn32 : n1 ≤ 32) (w : World) (hp : PR w (.slice a1 n1 k1) (.slice a2 n2 k2) p) (q : Bool) (hq : callB p.funcs s m = q) :
    Calls Tryz.prog 45 #[.agg #[.slice a1 n1 k1, .slice a2 n2 k2], .agg #[.int .i64 kd, .int .i64 m, .string s]] w fun e w' => e = .returned (.bool q) ∧ Below w.heap.size w w' := by
  obtain ⟨b, off, ff, gg, hfr⟩ := hp.1.rw9
  have hlen := hfr.len
  have HFR := Lib.hid hfr
  have HQ := Lib.hid hq
  have HLN := Lib.hid hlen
  have HBA : Hid (Below w.heap.size w ((w.alloc (.cells #[.slice a1 n1 k1, .slice a2 n2 k2] 25)).alloc (.cells #[.int .i64 kd, .int .i64 m, .string s] 114))) := hb_alloc (hb_alloc (hb_start w) _) _
  have hp2 : ((w.alloc (.cells #[.slice a1 n1 k1, .slice a2 n2 k2] 25)).alloc (.cells #[.int .i64 kd, .int .i64 m, .string s] 114)).heap[w.heap.size]? = some (.cells #[.slice a1 n1 k1, .slice a2 n2 k2] 25 (0, 0)) := (Below.heap_alloc _ _ _ (by rw [World.size_alloc]; omega)).trans (heap_alloc_new _ _)
  have hp3 : ((w.alloc (.cells #[.slice a1 n1 k1, .slice a2 n2 k2] 25)).alloc (.cells #[.int .i64 kd, .int .i64 m, .string s] 114)).heap[w.heap.size + 1]? = some (.cells #[.int .i64 kd, .int .i64 m, .string s] 114 (0, 0)) := by
    have := heap_alloc_new (w.alloc (.cells #[.slice a1 n1 k1, .slice a2 n2 k2] 25)) (.cells #[.int .i64 kd, .int .i64 m, .string s] 114)
    rwa [World.size_alloc] at this
  have HPB := Lib.hid hp2
  have HUB := Lib.hid hp3
  clear hp hfr hq hlen hp2 hp3
  go_enter Tryz.func45, Tryz.ntmps45
  go_wp2
  generalize hW0 : (w.alloc (.cells #[.slice a1 n1 k1, .slice a2 n2 k2] 25)).alloc (.cells #[.int .i64 kd, .int .i64 m, .string s] 114) = W0 at HBA HPB HUB ⊢
  clear hW0
  go_loopw [5] (fun i wr => ∃ k : Nat, i = .int .i64 k ∧ k ≤ n1 ∧ Hid (Below W0.heap.size W0 wr) ∧ Hid (∀ j, j < k → (s.toList == (p.funcs.getD j default).name.toList) = false)) (fun i _ => n1 - (intOf i).toNat)
  case atStart => exact ⟨0, rfl, Nat.zero_le _, Below.refl _ _, fun j hj => absurd hj (by omega)⟩
  case round =>
    obtain ⟨k, rfl, hk, HB, HNO⟩ := hrel
    have HPr := Lib.hid ((HB.out.block _ (lt_of_heap HPB.out)).trans HPB.out)
    have HUr := Lib.hid ((HB.out.block _ (lt_of_heap HUB.out)).trans HUB.out)
    have HWr : Hid (Below w.heap.size w wr) := HBA.out.trans (HB.out.mono HBA.out.size)
    have x0 : wr.cell? ⟨w.heap.size, 0, none⟩ = some (.slice a1 n1 k1) := cell_of_heap HPr.out 0
    have u1 : wr.cell? ⟨w.heap.size + 1, 1, none⟩ = some (.int .i64 m) := cell_of_heap HUr.out 1
    have u2 : wr.cell? ⟨w.heap.size + 1, 2, none⟩ = some (.string s) := cell_of_heap HUr.out 2
    by_cases hlt : k < n1
    · obtain rfl := HFR.out.at_ (by omega)
      obtain ⟨r0, r1, _⟩ := fcellC_at p.funcs ff gg k
      have e0 := HFR.out.cell (k * 3) (by omega)
      have e1 := HFR.out.cell (k * 3 + 1) (by omega)
      rw [r0] at e0
      rw [r1, ← Nat.add_assoc] at e1
      replace e0 := (HWr.out.cell (p := ⟨b, off + k * 3, none⟩) (lt_of_cell e0)).trans e0
      replace e1 := (HWr.out.cell (p := ⟨b, off + k * 3 + 1, none⟩) (lt_of_cell e1)).trans e1
      obtain ⟨pa, pc, hps, _, _⟩ := (HFR.out.ts k hlt).shape9
      rw [hps] at e1
      have hfind := find_at (fs := p.funcs) (s := s) (k := k) (by have := HLN.out; omega) HNO.out
      generalize hnm : (p.funcs.getD k default).name = nm at e0 hfind
      generalize (p.funcs.getD k default).params.length = pn at e1 hfind
      obtain ⟨t, ht⟩ : ∃ t, (nm.toList == s.toList) = t := ⟨_, rfl⟩
      have HT : Hid ((s.toList == nm.toList) = t) := (beq_swap9 _ _).trans ht
      have HFI := Lib.hid hfind
      have HNM := Lib.hid hnm
      have hkI : (k : Int) < n1 := by omega
      clear r0 r1 hps hfind hnm
      cases t with
      | true =>
        obtain ⟨t2, ht2⟩ : ∃ t2, ((pn : Int) == (m : Int)) = t2 := ⟨_, rfl⟩
        have hq2 : t2 = q := by
          have h1 := HFI.out HT.out
          rw [← HQ.out, ← ht2]
          unfold callB
          rw [h1]
          by_cases e : pn = m
          · subst e; simp
          · have e' : ¬ ((pn : Int) = (m : Int)) := by omega
            rw [beq_eq_false_iff_ne.2 e', eq_comm]
            simp [e]
        subst hq2
        go_wp2_with fail
        go_quiet (fail)
        go_wp2_with fail
        go_quiet (fail)
        go_wp2_with fail
        go_ret
        exact ⟨by simp, below_drewN (below_drewN HWr.out _) _⟩
      | false =>
        go_wp2_with fail
        go_quiet (fail)
        go_wp2_with fail
        go_roundw
        case rel =>
          refine ⟨k + 1, by go_num, by omega, below_drewN HB.out _, fun i hi => ?_⟩
          rcases Nat.lt_or_ge i k with h | h
          · exact HNO.out i h
          · obtain rfl : i = k := by omega
            rw [HNM.out]; exact HT.out
        case measure => simp [intOf]; omega
    · obtain rfl : k = n1 := by omega
      obtain rfl : false = q := by
        rw [← HQ.out]
        unfold callB
        rw [find_none9 (fun j hj => HNO.out j (by have := HLN.out; omega))]
        rfl
      go_wp2
      go_ret
      exact ⟨rfl, HWr.out⟩
end Go.Proofs.YthjjcmmonjajhaaGreatDoor
