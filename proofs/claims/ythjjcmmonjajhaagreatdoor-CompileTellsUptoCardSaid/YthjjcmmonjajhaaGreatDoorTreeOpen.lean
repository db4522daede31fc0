/- A program that came in, opened. -/
import Derived.Test.YthjjcmmonjajhaaGreatDoorScopePure
import Derived.Deep.Slices
import Derived.ChangeSame
import Derived.ProofKit
import Derived.Lib.SmallJoins
namespace Go.Proofs.YthjjcmmonjajhaaGreatDoor
open Go.RowKit Go.Sort Go.ChangeShapes
set_option linter.unusedVariables false
set_option maxRecDepth 100000
theorem ESl.nil (w : World) : ESl w (.slice none 0 0) [] := .mk none 0 0 0 [] (fun _ => .bool false) (fun h => absurd h (by simp)) (Nat.le_refl _) (Nat.zero_le _) (fun i h => absurd h (by simp)) (fun i h => absurd h (by simp))
theorem SSl.nil (w : World) : SSl w (.slice none 0 0) [] := .mk none 0 0 0 [] (fun _ => .bool false) (fun _ => .bool false) (fun _ => .bool false) (fun h => absurd h (by simp)) (Nat.le_refl _) (Nat.zero_le _) (fun i h => absurd h (by simp)) (fun i h => absurd h (by simp)) (fun i h => absurd h (by simp)) (fun i h => absurd h (by simp))
theorem FSl.nil (w : World) : FSl w (.slice none 0 0) [] := .mk none 0 0 0 [] (fun _ => .bool false) (fun _ => .bool false) (fun h => absurd h (by simp)) (Nat.le_refl _) (Nat.zero_le _) (fun i h => absurd h (by simp)) (fun i h => absurd h (by simp)) (fun i h => absurd h (by simp))

theorem cells_expr {H : Type} {enc : TypeId × Value → H} {W : World} {base : Nat} {held : Bool} {fuel : Nat} {cs : List Value} {y : DataW H × List MemPlace} (h : DataW.trod enc Tryz.prog W base (fun _ => true) held fuel 51 cs = some y) :
    ∃ (n : Nat) (o0 : Int) (o1 : Int) (s2 : ByteArray) (v3 : Value), n < fuel ∧ cs = [.int .i64 o0, .int .i64 o1, .string s2, v3] ∧ (∃ y', DataW.trod enc Tryz.prog W base (fun _ => true) held n 49 [v3] = some y') := by
  obtain ⟨xs, n, rfl, rfl, hl, hxl, hf⟩ := DataW.trod_struct Tryz.underlying51 h
  have hcN : Tryz.prog.cellsOf 51 = 4 := by kernel_rfl
  have hc_0 : Tryz.prog.cellsOf 49 = 1 := by kernel_rfl
  have hc_1 : Tryz.prog.cellsOf 2 = 1 := by kernel_rfl
  have hc_2 : Tryz.prog.cellsOf 3 = 1 := by kernel_rfl
  have hc_3 : Tryz.prog.cellsOf 9 = 1 := by kernel_rfl
  rw [hcN] at hl
  match cs, hl with
  | [w0, w1, w2, w3], _ =>
    match xs, hxl with
    | [y0, y1, y2, y3], _ =>
      have h0 := hf 0 _ rfl
      have h1 := hf 1 _ rfl
      have h2 := hf 2 _ rfl
      have h3 := hf 3 _ rfl
      simp [hc_0, hc_1, hc_2, hc_3] at h0 h1 h2 h3
      obtain ⟨n0, e0, _, _⟩ := DataW.trod_int Tryz.underlying3 h0
      cases e0
      obtain ⟨n1, e1, _, _⟩ := DataW.trod_int Tryz.underlying2 h1
      cases e1
      obtain ⟨n2, e2, _, _⟩ := DataW.trod_string Tryz.underlying9 h2
      cases e2
      exact ⟨n, n0, n1, n2, w3, Nat.lt_succ_self _, rfl, ⟨_, h3⟩⟩
theorem cells_stmt {H : Type} {enc : TypeId × Value → H} {W : World} {base : Nat} {held : Bool} {fuel : Nat} {cs : List Value} {y : DataW H × List MemPlace} (h : DataW.trod enc Tryz.prog W base (fun _ => true) held fuel 54 cs = some y) :
    ∃ (n : Nat) (o0 : Int) (s1 : ByteArray) (o2 : Int) (v3 : Value) (v4 : Value) (v5 : Value), n < fuel ∧ cs = [.int .i64 o0, .string s1, .int .i64 o2, v3, v4, v5] ∧ (∃ y', DataW.trod enc Tryz.prog W base (fun _ => true) held n 49 [v3] = some y') ∧ (∃ y', DataW.trod enc Tryz.prog W base (fun _ => true) held n 23 [v4] = some y') ∧ (∃ y', DataW.trod enc Tryz.prog W base (fun _ => true) held n 23 [v5] = some y') := by
  obtain ⟨xs, n, rfl, rfl, hl, hxl, hf⟩ := DataW.trod_struct Tryz.underlying54 h
  have hcN : Tryz.prog.cellsOf 54 = 6 := by kernel_rfl
  have hc_0 : Tryz.prog.cellsOf 49 = 1 := by kernel_rfl
  have hc_1 : Tryz.prog.cellsOf 23 = 1 := by kernel_rfl
  have hc_2 : Tryz.prog.cellsOf 2 = 1 := by kernel_rfl
  have hc_3 : Tryz.prog.cellsOf 3 = 1 := by kernel_rfl
  have hc_4 : Tryz.prog.cellsOf 9 = 1 := by kernel_rfl
  rw [hcN] at hl
  match cs, hl with
  | [w0, w1, w2, w3, w4, w5], _ =>
    match xs, hxl with
    | [y0, y1, y2, y3, y4, y5], _ =>
      have h0 := hf 0 _ rfl
      have h1 := hf 1 _ rfl
      have h2 := hf 2 _ rfl
      have h3 := hf 3 _ rfl
      have h4 := hf 4 _ rfl
      have h5 := hf 5 _ rfl
      simp [hc_0, hc_1, hc_2, hc_3, hc_4] at h0 h1 h2 h3 h4 h5
      obtain ⟨n0, e0, _, _⟩ := DataW.trod_int Tryz.underlying3 h0
      cases e0
      obtain ⟨n1, e1, _, _⟩ := DataW.trod_string Tryz.underlying9 h1
      cases e1
      obtain ⟨n2, e2, _, _⟩ := DataW.trod_int Tryz.underlying2 h2
      cases e2
      exact ⟨n, n0, n1, n2, w3, w4, w5, Nat.lt_succ_self _, rfl, ⟨_, h3⟩, ⟨_, h4⟩, ⟨_, h5⟩⟩
theorem cells_func {H : Type} {enc : TypeId × Value → H} {W : World} {base : Nat} {held : Bool} {fuel : Nat} {cs : List Value} {y : DataW H × List MemPlace} (h : DataW.trod enc Tryz.prog W base (fun _ => true) held fuel 67 cs = some y) :
    ∃ (n : Nat) (s0 : ByteArray) (v1 : Value) (v2 : Value), n < fuel ∧ cs = [.string s0, v1, v2] ∧ (∃ y', DataW.trod enc Tryz.prog W base (fun _ => true) held n 59 [v1] = some y') ∧ (∃ y', DataW.trod enc Tryz.prog W base (fun _ => true) held n 23 [v2] = some y') := by
  obtain ⟨xs, n, rfl, rfl, hl, hxl, hf⟩ := DataW.trod_struct Tryz.underlying67 h
  have hcN : Tryz.prog.cellsOf 67 = 3 := by kernel_rfl
  have hc_0 : Tryz.prog.cellsOf 23 = 1 := by kernel_rfl
  have hc_1 : Tryz.prog.cellsOf 59 = 1 := by kernel_rfl
  have hc_2 : Tryz.prog.cellsOf 9 = 1 := by kernel_rfl
  rw [hcN] at hl
  match cs, hl with
  | [w0, w1, w2], _ =>
    match xs, hxl with
    | [y0, y1, y2], _ =>
      have h0 := hf 0 _ rfl
      have h1 := hf 1 _ rfl
      have h2 := hf 2 _ rfl
      simp [hc_0, hc_1, hc_2] at h0 h1 h2
      obtain ⟨n0, e0, _, _⟩ := DataW.trod_string Tryz.underlying9 h0
      cases e0
      exact ⟨n, n0, w1, w2, Nat.lt_succ_self _, rfl, ⟨_, h1⟩, ⟨_, h2⟩⟩

theorem addr_add (b o n : Nat) : (⟨b, o, none⟩ : Addr).add n = ⟨b, o + n, none⟩ := by unfold Addr.add; split <;> simp_all
theorem spot_none {W : World} {b off c : Nat} {spot : Option _} {v : Value} (h : W.cell? ((⟨b, off, spot⟩ : Addr).add (0 * c)) = some v) : spot = none := by
  cases spot with
  | none => rfl
  | some z =>
    exfalso
    simp only [World.cell?, Addr.add, Nat.zero_mul, if_true, Option.isSome_some] at h
    split at h <;> simp at h
/-- The elements of a slice that was read. -/
theorem open_elems {H : Type} {enc : TypeId × Value → H} {W : World} {base : Nat} {held : Bool} {fuel : Nat} {v : Value} {y : DataW H × List MemPlace} {t e : TypeId} (ht : Tryz.prog.underlying t = some (.slice e)) (h : DataW.trod enc Tryz.prog W base (fun _ => true) held fuel t [v] = some y) :
    v = .slice none 0 0 ∨ ∃ (a : Addr) (len cap n : Nat), n < fuel ∧ v = .slice (some a) len cap ∧ len ≤ cap ∧ cap ≤ maxLen ∧
      ∀ i, i < len → ∃ cs' y', W.cells? base (a.add (i * Tryz.prog.cellsOf e)) (Tryz.prog.cellsOf e) = some cs' ∧ DataW.trod enc Tryz.prog W base (fun _ => true) held n e cs' = some y' := by
  rcases DataW.trod_slice ht h with ⟨hcs, _⟩ | ⟨a, len, cap, elems, rest, n, rfl, hcs, _, hb, hl, hm, hlen, hel, _, _⟩
  · exact .inl (List.cons.inj hcs).1
  · refine .inr ⟨a, len, cap, n, Nat.lt_succ_self _, (List.cons.inj hcs).1, hl, hm, fun i hi => ?_⟩
    have := hel i hi
    rw [List.getElem?_eq_getElem (by omega)] at this
    obtain ⟨cs', h1, h2⟩ := Option.bind_eq_some_iff.1 this
    exact ⟨cs', _, h1, h2⟩
theorem range_getD {α : Type} (z : α) (n : Nat) (f : Nat → α) (i : Nat) (h : i < n) : ((List.range n).map f).getD i z = f i := by
  rw [List.getD_eq_getElem?_getD, List.getElem?_map, List.getElem?_range h]; rfl

theorem open_es {H : Type} {enc : TypeId × Value → H} {W : World} {base : Nat} {held : Bool} : ∀ (fuel : Nat) (v : Value) (y : DataW H × List MemPlace), DataW.trod enc Tryz.prog W base (fun _ => true) held fuel 49 [v] = some y → ∃ l, ESl W v l := by
  intro fuel
  induction fuel using Nat.strongRecOn with
  | _ fuel ih =>
    intro v y h
    have hcN : Tryz.prog.cellsOf 51 = 4 := by kernel_rfl
    rcases open_elems Tryz.underlying49 h with rfl | ⟨a, len, cap, n, hn, rfl, hl, hm, hel⟩
    · exact ⟨[], ESl.nil W⟩
    · rw [hcN] at hel
      have key : ∀ i, ∃ x : ET × Value, i < len → (W.cell? (a.add (i * 4)) = some (.int .i64 x.1.op) ∧ W.cell? ((a.add (i * 4)).add 1) = some (.int .i64 x.1.num) ∧ W.cell? ((a.add (i * 4)).add 2) = some (.string x.1.name) ∧ W.cell? ((a.add (i * 4)).add 3) = some x.2) ∧ ESl W x.2 x.1.parts := by
        intro i
        by_cases hi : i < len
        · obtain ⟨cs', y', hc, ht⟩ := hel i hi
          obtain ⟨n', o0, o1, s2, v3, hlt, rfl, ⟨y3, h3⟩⟩ := cells_expr ht
          obtain ⟨l3, hl3⟩ := ih n' (by omega) v3 y3 h3
          obtain ⟨_, hcl, hat⟩ := World.cells?_some hc
          exact ⟨(.mk o0 o1 s2 l3, v3), fun _ => ⟨⟨hat 0 (by omega), hat 1 (by omega), hat 2 (by omega), hat 3 (by omega)⟩, hl3⟩⟩
        · exact ⟨(default, .bool false), fun h => absurd h hi⟩
      obtain ⟨b, off, spot⟩ := a
      by_cases h0 : len = 0
      · subst h0
        exact ⟨[], .mk _ 0 0 cap [] (fun _ => .bool false) (fun h => absurd h (by simp)) (Nat.zero_le _) hm (fun i h => absurd h (by simp)) (fun i h => absurd h (by simp))⟩
      · have hs : spot = none := by
          obtain ⟨x0, hx0⟩ := key 0
          exact spot_none (hx0 (by omega)).1.1
        subst hs
        simp only [addr_add] at key
        let l : List ET := (List.range len).map fun i => (Classical.choose (key i)).1
        have hll : l.length = len := by simp [l]
        have hat : ∀ i, i < len → l.getD i default = (Classical.choose (key i)).1 := fun i hi => range_getD _ _ _ _ hi
        have := ESl.mk (w := W) (some ⟨b, off, none⟩) b off cap l (fun i => (Classical.choose (key i)).2) (fun _ => rfl) (by omega) hm
          (fun i hi => by rw [hll] at hi; rw [hat i hi]; exact (Classical.choose_spec (key i) hi).1) (fun i hi => by rw [hll] at hi; rw [hat i hi]; exact (Classical.choose_spec (key i) hi).2)
        rw [hll] at this
        exact ⟨l, this⟩
theorem open_ss {H : Type} {enc : TypeId × Value → H} {W : World} {base : Nat} {held : Bool} : ∀ (fuel : Nat) (v : Value) (y : DataW H × List MemPlace), DataW.trod enc Tryz.prog W base (fun _ => true) held fuel 23 [v] = some y → ∃ l, SSl W v l := by
  intro fuel
  induction fuel using Nat.strongRecOn with
  | _ fuel ih =>
    intro v y h
    have hcN : Tryz.prog.cellsOf 54 = 6 := by kernel_rfl
    rcases open_elems Tryz.underlying23 h with rfl | ⟨a, len, cap, n, hn, rfl, hl, hm, hel⟩
    · exact ⟨[], SSl.nil W⟩
    · rw [hcN] at hel
      have key : ∀ i, ∃ x : ST × Value × Value × Value, i < len → (W.cell? (a.add (i * 6)) = some (.int .i64 x.1.op) ∧ W.cell? ((a.add (i * 6)).add 1) = some (.string x.1.name) ∧ W.cell? ((a.add (i * 6)).add 2) = some (.int .i64 x.1.num) ∧ W.cell? ((a.add (i * 6)).add 3) = some x.2.1 ∧ W.cell? ((a.add (i * 6)).add 4) = some x.2.2.1 ∧ W.cell? ((a.add (i * 6)).add 5) = some x.2.2.2) ∧ ESl W x.2.1 x.1.parts ∧ SSl W x.2.2.1 x.1.body ∧ SSl W x.2.2.2 x.1.els := by
        intro i
        by_cases hi : i < len
        · obtain ⟨cs', y', hc, ht⟩ := hel i hi
          obtain ⟨n', o0, s1, o2, v3, v4, v5, hlt, rfl, ⟨y3, h3⟩, ⟨y4, h4⟩, ⟨y5, h5⟩⟩ := cells_stmt ht
          obtain ⟨l3, hl3⟩ := open_es n' v3 y3 h3
          obtain ⟨l4, hl4⟩ := ih n' (by omega) v4 y4 h4
          obtain ⟨l5, hl5⟩ := ih n' (by omega) v5 y5 h5
          obtain ⟨_, hcl, hat⟩ := World.cells?_some hc
          exact ⟨(.mk o0 o2 s1 l3 l4 l5, v3, v4, v5), fun _ => ⟨⟨hat 0 (by omega), hat 1 (by omega), hat 2 (by omega), hat 3 (by omega), hat 4 (by omega), hat 5 (by omega)⟩, hl3, hl4, hl5⟩⟩
        · exact ⟨(default, .bool false, .bool false, .bool false), fun h => absurd h hi⟩
      obtain ⟨b, off, spot⟩ := a
      by_cases h0 : len = 0
      · subst h0
        exact ⟨[], .mk _ 0 0 cap [] (fun _ => .bool false) (fun _ => .bool false) (fun _ => .bool false) (fun h => absurd h (by simp)) (Nat.zero_le _) hm (fun i h => absurd h (by simp)) (fun i h => absurd h (by simp)) (fun i h => absurd h (by simp)) (fun i h => absurd h (by simp))⟩
      · have hs : spot = none := by
          obtain ⟨x0, hx0⟩ := key 0
          exact spot_none (hx0 (by omega)).1.1
        subst hs
        simp only [addr_add] at key
        let l : List ST := (List.range len).map fun i => (Classical.choose (key i)).1
        have hll : l.length = len := by simp [l]
        have hat : ∀ i, i < len → l.getD i default = (Classical.choose (key i)).1 := fun i hi => range_getD _ _ _ _ hi
        have := SSl.mk (w := W) (some ⟨b, off, none⟩) b off cap l (fun i => (Classical.choose (key i)).2.1) (fun i => (Classical.choose (key i)).2.2.1) (fun i => (Classical.choose (key i)).2.2.2) (fun _ => rfl) (by omega) hm
          (fun i hi => by rw [hll] at hi; rw [hat i hi]; exact (Classical.choose_spec (key i) hi).1) (fun i hi => by rw [hll] at hi; rw [hat i hi]; exact (Classical.choose_spec (key i) hi).2.1) (fun i hi => by rw [hll] at hi; rw [hat i hi]; exact (Classical.choose_spec (key i) hi).2.2.1) (fun i hi => by rw [hll] at hi; rw [hat i hi]; exact (Classical.choose_spec (key i) hi).2.2.2)
        rw [hll] at this
        exact ⟨l, this⟩
theorem open_ts {H : Type} {enc : TypeId × Value → H} {W : World} {base : Nat} {held : Bool} (fuel : Nat) (v : Value) (y : DataW H × List MemPlace) (h : DataW.trod enc Tryz.prog W base (fun _ => true) held fuel 59 [v] = some y) : ∃ l, TSl W v l := by
  have hcN : Tryz.prog.cellsOf 9 = 1 := by kernel_rfl
  rcases open_elems Tryz.underlying59 h with rfl | ⟨a, len, cap, n, hn, rfl, hl, hm, hel⟩
  · exact ⟨[], TSl.nil W⟩
  · rw [hcN] at hel
    have key : ∀ i, ∃ x : ByteArray, i < len → W.cell? (a.add (i * 1)) = some (.string x) := by
      intro i
      by_cases hi : i < len
      · obtain ⟨cs', y', hc, ht⟩ := hel i hi
        obtain ⟨s, rfl, _, _⟩ := DataW.trod_string Tryz.underlying9 ht
        obtain ⟨_, hcl, hat⟩ := World.cells?_some hc
        exact ⟨s, fun _ => hat 0 (by omega)⟩
      · exact ⟨ByteArray.empty, fun h => absurd h hi⟩
    obtain ⟨b, off, spot⟩ := a
    by_cases h0 : len = 0
    · subst h0
      exact ⟨[], .mk _ 0 0 cap [] (fun h => absurd h (by simp)) (Nat.zero_le _) hm (fun i h => absurd h (by simp))⟩
    · have hs : spot = none := spot_none (Classical.choose_spec (key 0) (by omega))
      subst hs
      simp only [addr_add, Nat.mul_one] at key
      let l : List ByteArray := (List.range len).map fun i => Classical.choose (key i)
      have hll : l.length = len := by simp [l]
      have hat : ∀ i, i < len → l.getD i ByteArray.empty = Classical.choose (key i) := fun i hi => range_getD _ _ _ _ hi
      have := TSl.mk (w := W) (some ⟨b, off, none⟩) b off cap l (fun _ => rfl) (by omega) hm (fun i hi => by rw [hll] at hi; rw [hat i hi]; exact Classical.choose_spec (key i) hi)
      rw [hll] at this
      exact ⟨l, this⟩
theorem open_fs {H : Type} {enc : TypeId × Value → H} {W : World} {base : Nat} {held : Bool} (fuel : Nat) (v : Value) (y : DataW H × List MemPlace) (h : DataW.trod enc Tryz.prog W base (fun _ => true) held fuel 22 [v] = some y) : ∃ l, FSl W v l := by
  have hcN : Tryz.prog.cellsOf 67 = 3 := by kernel_rfl
  rcases open_elems Tryz.underlying22 h with rfl | ⟨a, len, cap, n, hn, rfl, hl, hm, hel⟩
  · exact ⟨[], FSl.nil W⟩
  · rw [hcN] at hel
    have key : ∀ i, ∃ x : FT × Value × Value, i < len → (W.cell? (a.add (i * 3)) = some (.string x.1.name) ∧ W.cell? ((a.add (i * 3)).add 1) = some x.2.1 ∧ W.cell? ((a.add (i * 3)).add 2) = some x.2.2) ∧ TSl W x.2.1 x.1.params ∧ SSl W x.2.2 x.1.body := by
      intro i
      by_cases hi : i < len
      · obtain ⟨cs', y', hc, ht⟩ := hel i hi
        obtain ⟨n', s0, v1, v2, hlt, rfl, ⟨y3, h3⟩, ⟨y4, h4⟩⟩ := cells_func ht
        obtain ⟨l3, hl3⟩ := open_ts n' v1 y3 h3
        obtain ⟨l4, hl4⟩ := open_ss n' v2 y4 h4
        obtain ⟨_, hcl, hat⟩ := World.cells?_some hc
        exact ⟨(⟨s0, l3, l4⟩, v1, v2), fun _ => ⟨⟨hat 0 (by omega), hat 1 (by omega), hat 2 (by omega)⟩, hl3, hl4⟩⟩
      · exact ⟨(default, .bool false, .bool false), fun h => absurd h hi⟩
    obtain ⟨b, off, spot⟩ := a
    by_cases h0 : len = 0
    · subst h0
      exact ⟨[], .mk _ 0 0 cap [] (fun _ => .bool false) (fun _ => .bool false) (fun h => absurd h (by simp)) (Nat.zero_le _) hm (fun i h => absurd h (by simp)) (fun i h => absurd h (by simp)) (fun i h => absurd h (by simp))⟩
    · have hs : spot = none := by
        obtain ⟨x0, hx0⟩ := key 0
        exact spot_none (hx0 (by omega)).1.1
      subst hs
      simp only [addr_add] at key
      let l : List FT := (List.range len).map fun i => (Classical.choose (key i)).1
      have hll : l.length = len := by simp [l]
      have hat : ∀ i, i < len → l.getD i default = (Classical.choose (key i)).1 := fun i hi => range_getD _ _ _ _ hi
      have := FSl.mk (w := W) (some ⟨b, off, none⟩) b off cap l (fun i => (Classical.choose (key i)).2.1) (fun i => (Classical.choose (key i)).2.2) (fun _ => rfl) (by omega) hm
        (fun i hi => by rw [hll] at hi; rw [hat i hi]; exact (Classical.choose_spec (key i) hi).1) (fun i hi => by rw [hll] at hi; rw [hat i hi]; exact (Classical.choose_spec (key i) hi).2.1) (fun i hi => by rw [hll] at hi; rw [hat i hi]; exact (Classical.choose_spec (key i) hi).2.2)
      rw [hll] at this
      exact ⟨l, this⟩
theorem FSl.form {w : World} {v : Value} {l : List FT} (h : FSl w v l) : ∃ a n cap, v = .slice a n cap := by cases h; exact ⟨_, _, _, rfl⟩
theorem SSl.form {w : World} {v : Value} {l : List ST} (h : SSl w v l) : ∃ a n cap, v = .slice a n cap := by cases h; exact ⟨_, _, _, rfl⟩
theorem open_cap {H : Type} {enc : TypeId × Value → H} {W : World} {base : Nat} {held : Bool} {fuel : Nat} {a : Option Addr} {n k : Nat} {y : DataW H × List MemPlace} {t e : TypeId} (ht : Tryz.prog.underlying t = some (.slice e)) (h : DataW.trod enc Tryz.prog W base (fun _ => true) held fuel t [.slice a n k] = some y)
    (hz : ∀ m ∈ DataW.weights Tryz.prog t y.1, m ≤ reachBytes) : k * Tryz.prog.bytesOf e ≤ 140737488351232 := by
  rcases DataW.trod_slice ht h with ⟨hcs, _⟩ | ⟨a', len, cap, elems, rest, n', rfl, hcs, hx, hb, hl, hm, hlen, hel, hsp, _⟩
  · have : Value.slice a n k = .slice none 0 0 := (List.cons.inj hcs).1
    cases this; simp
  · have : Value.slice a n k = .slice (some a') len cap := (List.cons.inj hcs).1
    cases this
    have hr := (hsp rfl).1
    have := hz ((elems.length + rest.length) * Tryz.prog.bytesOf e) (by rw [hx]; simp [DataW.weights, ht])
    have e1 : elems.length + rest.length = k := by omega
    rw [e1] at this
    exact this
/-- A program that came in. -/
theorem open_prog {H : Type} {enc : TypeId × Value → H} {W : World} {b0 : Nat} {r : Reach} {v : Value} {d : DataW H} {p : List MemPlace} (hv : Value.okWide Tryz.prog W r b0 25 v) (h : DataW.Trod enc Tryz.prog W 0 (fun _ => true) true 25 v d p)
    (hz : ∀ m ∈ DataW.weights Tryz.prog 25 d, m ≤ reachBytes) :
    ∃ (a1 : Option Addr) (n1 k1 : Nat) (a2 : Option Addr) (n2 k2 : Nat) (P : PT), v = .agg #[.slice a1 n1 k1, .slice a2 n2 k2] ∧ PR W (.slice a1 n1 k1) (.slice a2 n2 k2) P ∧ k1 ≤ 2199023255488 ∧ k2 ≤ 1353245080300 := by
  obtain ⟨c0, c1, y0, y1, n, rfl, rfl, rfl, h0, h1⟩ := Joins.open_agg2 Tryz.underlying25 (by kernel_rfl) (by kernel_rfl) hv h
  obtain ⟨lf, hf⟩ := open_fs n c0 y0 h0
  obtain ⟨lm, hm⟩ := open_ss n c1 y1 h1
  obtain ⟨a1, n1, k1, rfl⟩ := hf.form
  obtain ⟨a2, n2, k2, rfl⟩ := hm.form
  have hw : DataW.weights Tryz.prog 25 (.agg [y0.1, y1.1]) = DataW.weights Tryz.prog 22 y0.1 ++ (DataW.weights Tryz.prog 23 y1.1 ++ []) := by
    simp [DataW.weights, DataW.weightsEach, Tryz.underlying25]
  rw [hw] at hz
  have z0 := open_cap Tryz.underlying22 h0 (fun m hm => hz m (List.mem_append.2 (.inl hm)))
  have z1 := open_cap Tryz.underlying23 h1 (fun m hm => hz m (List.mem_append.2 (.inr (List.mem_append.2 (.inl hm)))))
  rw [show Tryz.prog.bytesOf 67 = 64 by kernel_rfl] at z0
  rw [show Tryz.prog.bytesOf 54 = 104 by kernel_rfl] at z1
  exact ⟨a1, n1, k1, a2, n2, k2, ⟨lf, lm⟩, rfl, ⟨hf, hm⟩, by omega, by omega⟩
end Go.Proofs.YthjjcmmonjajhaaGreatDoor
