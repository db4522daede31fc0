/- A program that came in, opened. Depths and sizes where nothing wraps: what holds something is deeper, and larger, by one. How many nodes a program has: no more than the bulk of what was read. -/
import Derived.Test.YthfgagljplabpaaDoorScopePure
import Derived.Deep.Slices
import Derived.ChangeSame
import Derived.ProofKit
import Derived.Lib.SmallJoins
import Derived.Test.YthfgagljplabpaaDoorTreePure
import Derived.Test.YthfgagljplabpaaDoorRows
namespace Go.Proofs.YthfgagljplabpaaDoor
open Go.RowKit Go.Sort Go.ChangeShapes
set_option linter.unusedVariables false
set_option maxRecDepth 100000
theorem ESl.nil (w : World) : ESl w (.slice none 0 0) [] := .mk none 0 0 0 [] (fun _ => .bool false) (fun h => absurd h (by simp)) (Nat.le_refl _) (Nat.zero_le _) (fun i h => absurd h (by simp)) (fun i h => absurd h (by simp))
theorem SSl.nil (w : World) : SSl w (.slice none 0 0) [] := .mk none 0 0 0 [] (fun _ => .bool false) (fun _ => .bool false) (fun _ => .bool false) (fun h => absurd h (by simp)) (Nat.le_refl _) (Nat.zero_le _) (fun i h => absurd h (by simp)) (fun i h => absurd h (by simp)) (fun i h => absurd h (by simp)) (fun i h => absurd h (by simp))
theorem FSl.nil (w : World) : FSl w (.slice none 0 0) [] := .mk none 0 0 0 [] (fun _ => .bool false) (fun _ => .bool false) (fun h => absurd h (by simp)) (Nat.le_refl _) (Nat.zero_le _) (fun i h => absurd h (by simp)) (fun i h => absurd h (by simp)) (fun i h => absurd h (by simp))

theorem cells_expr {H : Type} {enc : TypeId × Value → H} {W : World} {base : Nat} {held : Bool} {fuel : Nat} {cs : List Value} {y : DataW H × List MemPlace} (h : DataW.trod enc Tryd.prog W base (fun _ => true) held fuel 105 cs = some y) :
    ∃ (n : Nat) (o0 : Int) (o1 : Int) (s2 : ByteArray) (v3 : Value), n < fuel ∧ cs = [.int .i64 o0, .int .i64 o1, .string s2, v3] ∧ (∃ y', DataW.trod enc Tryd.prog W base (fun _ => true) held n 91 [v3] = some y') := by
  obtain ⟨xs, n, rfl, rfl, hl, hxl, hf⟩ := DataW.trod_struct Tryd.underlying105 h
  have hcN : Tryd.prog.cellsOf 105 = 4 := by kernel_rfl
  have hc_0 : Tryd.prog.cellsOf 91 = 1 := by kernel_rfl
  have hc_1 : Tryd.prog.cellsOf 2 = 1 := by kernel_rfl
  have hc_2 : Tryd.prog.cellsOf 3 = 1 := by kernel_rfl
  have hc_3 : Tryd.prog.cellsOf 9 = 1 := by kernel_rfl
  rw [hcN] at hl
  match cs, hl with
  | [w0, w1, w2, w3], _ =>
    match xs, hxl with
    | [y0, y1, y2, y3], _ =>
      have h0 := hf 0 _ rfl
      have h1 := hf 1 _ rfl
      have h2 := hf 2 _ rfl
      have h3 := hf 3 _ rfl
      simp [hc_0, hc_1, hc_2, hc_3] at h0 h1 h2 h3
      obtain ⟨n0, e0, _, _⟩ := DataW.trod_int Tryd.underlying3 h0
      cases e0
      obtain ⟨n1, e1, _, _⟩ := DataW.trod_int Tryd.underlying2 h1
      cases e1
      obtain ⟨n2, e2, _, _⟩ := DataW.trod_string Tryd.underlying9 h2
      cases e2
      exact ⟨n, n0, n1, n2, w3, Nat.lt_succ_self _, rfl, ⟨_, h3⟩⟩
theorem cells_stmt {H : Type} {enc : TypeId × Value → H} {W : World} {base : Nat} {held : Bool} {fuel : Nat} {cs : List Value} {y : DataW H × List MemPlace} (h : DataW.trod enc Tryd.prog W base (fun _ => true) held fuel 93 cs = some y) :
    ∃ (n : Nat) (o0 : Int) (s1 : ByteArray) (o2 : Int) (v3 : Value) (v4 : Value) (v5 : Value), n < fuel ∧ cs = [.int .i64 o0, .string s1, .int .i64 o2, v3, v4, v5] ∧ (∃ y', DataW.trod enc Tryd.prog W base (fun _ => true) held n 91 [v3] = some y') ∧ (∃ y', DataW.trod enc Tryd.prog W base (fun _ => true) held n 39 [v4] = some y') ∧ (∃ y', DataW.trod enc Tryd.prog W base (fun _ => true) held n 39 [v5] = some y') := by
  obtain ⟨xs, n, rfl, rfl, hl, hxl, hf⟩ := DataW.trod_struct Tryd.underlying93 h
  have hcN : Tryd.prog.cellsOf 93 = 6 := by kernel_rfl
  have hc_0 : Tryd.prog.cellsOf 91 = 1 := by kernel_rfl
  have hc_1 : Tryd.prog.cellsOf 39 = 1 := by kernel_rfl
  have hc_2 : Tryd.prog.cellsOf 2 = 1 := by kernel_rfl
  have hc_3 : Tryd.prog.cellsOf 3 = 1 := by kernel_rfl
  have hc_4 : Tryd.prog.cellsOf 9 = 1 := by kernel_rfl
  rw [hcN] at hl
  match cs, hl with
  | [w0, w1, w2, w3, w4, w5], _ =>
    match xs, hxl with
    | [y0, y1, y2, y3, y4, y5], _ =>
      have h0 := hf 0 _ rfl
      have h1 := hf 1 _ rfl
      have h2 := hf 2 _ rfl
      have h3 := hf 3 _ rfl
      have h4 := hf 4 _ rfl
      have h5 := hf 5 _ rfl
      simp [hc_0, hc_1, hc_2, hc_3, hc_4] at h0 h1 h2 h3 h4 h5
      obtain ⟨n0, e0, _, _⟩ := DataW.trod_int Tryd.underlying3 h0
      cases e0
      obtain ⟨n1, e1, _, _⟩ := DataW.trod_string Tryd.underlying9 h1
      cases e1
      obtain ⟨n2, e2, _, _⟩ := DataW.trod_int Tryd.underlying2 h2
      cases e2
      exact ⟨n, n0, n1, n2, w3, w4, w5, Nat.lt_succ_self _, rfl, ⟨_, h3⟩, ⟨_, h4⟩, ⟨_, h5⟩⟩
theorem cells_func {H : Type} {enc : TypeId × Value → H} {W : World} {base : Nat} {held : Bool} {fuel : Nat} {cs : List Value} {y : DataW H × List MemPlace} (h : DataW.trod enc Tryd.prog W base (fun _ => true) held fuel 64 cs = some y) :
    ∃ (n : Nat) (s0 : ByteArray) (v1 : Value) (v2 : Value), n < fuel ∧ cs = [.string s0, v1, v2] ∧ (∃ y', DataW.trod enc Tryd.prog W base (fun _ => true) held n 56 [v1] = some y') ∧ (∃ y', DataW.trod enc Tryd.prog W base (fun _ => true) held n 39 [v2] = some y') := by
  obtain ⟨xs, n, rfl, rfl, hl, hxl, hf⟩ := DataW.trod_struct Tryd.underlying64 h
  have hcN : Tryd.prog.cellsOf 64 = 3 := by kernel_rfl
  have hc_0 : Tryd.prog.cellsOf 39 = 1 := by kernel_rfl
  have hc_1 : Tryd.prog.cellsOf 56 = 1 := by kernel_rfl
  have hc_2 : Tryd.prog.cellsOf 9 = 1 := by kernel_rfl
  rw [hcN] at hl
  match cs, hl with
  | [w0, w1, w2], _ =>
    match xs, hxl with
    | [y0, y1, y2], _ =>
      have h0 := hf 0 _ rfl
      have h1 := hf 1 _ rfl
      have h2 := hf 2 _ rfl
      simp [hc_0, hc_1, hc_2] at h0 h1 h2
      obtain ⟨n0, e0, _, _⟩ := DataW.trod_string Tryd.underlying9 h0
      cases e0
      exact ⟨n, n0, w1, w2, Nat.lt_succ_self _, rfl, ⟨_, h1⟩, ⟨_, h2⟩⟩

theorem addr_add (b o n : Nat) : (⟨b, o, none⟩ : Addr).add n = ⟨b, o + n, none⟩ := by unfold Addr.add; split <;> simp_all
theorem spot_none {W : World} {b off c : Nat} {spot : Option _} {v : Value} (h : W.cell? ((⟨b, off, spot⟩ : Addr).add (0 * c)) = some v) : spot = none := by
  cases spot with
  | none => rfl
  | some z =>
    exfalso
    simp only [World.cell?, Addr.add, Nat.zero_mul, if_true, Option.isSome_some] at h
    split at h <;> simp at h
/-- The elements of a slice that was read. -/
theorem open_elems {H : Type} {enc : TypeId × Value → H} {W : World} {base : Nat} {held : Bool} {fuel : Nat} {v : Value} {y : DataW H × List MemPlace} {t e : TypeId} (ht : Tryd.prog.underlying t = some (.slice e)) (h : DataW.trod enc Tryd.prog W base (fun _ => true) held fuel t [v] = some y) :
    v = .slice none 0 0 ∨ ∃ (a : Addr) (len cap n : Nat), n < fuel ∧ v = .slice (some a) len cap ∧ len ≤ cap ∧ cap ≤ maxLen ∧
      ∀ i, i < len → ∃ cs' y', W.cells? base (a.add (i * Tryd.prog.cellsOf e)) (Tryd.prog.cellsOf e) = some cs' ∧ DataW.trod enc Tryd.prog W base (fun _ => true) held n e cs' = some y' := by
  rcases DataW.trod_slice ht h with ⟨hcs, _⟩ | ⟨a, len, cap, elems, rest, n, rfl, hcs, _, hb, hl, hm, hlen, hel, _, _⟩
  · exact .inl (List.cons.inj hcs).1
  · refine .inr ⟨a, len, cap, n, Nat.lt_succ_self _, (List.cons.inj hcs).1, hl, hm, fun i hi => ?_⟩
    have := hel i hi
    rw [List.getElem?_eq_getElem (by omega)] at this
    obtain ⟨cs', h1, h2⟩ := Option.bind_eq_some_iff.1 this
    exact ⟨cs', _, h1, h2⟩
theorem range_getD {α : Type} (z : α) (n : Nat) (f : Nat → α) (i : Nat) (h : i < n) : ((List.range n).map f).getD i z = f i := by
  rw [List.getD_eq_getElem?_getD, List.getElem?_map, List.getElem?_range h]; rfl

theorem open_es {H : Type} {enc : TypeId × Value → H} {W : World} {base : Nat} {held : Bool} : ∀ (fuel : Nat) (v : Value) (y : DataW H × List MemPlace), DataW.trod enc Tryd.prog W base (fun _ => true) held fuel 91 [v] = some y → ∃ l, ESl W v l := by
  intro fuel
  induction fuel using Nat.strongRecOn with
  | _ fuel ih =>
    intro v y h
    have hcN : Tryd.prog.cellsOf 105 = 4 := by kernel_rfl
    rcases open_elems Tryd.underlying91 h with rfl | ⟨a, len, cap, n, hn, rfl, hl, hm, hel⟩
    · exact ⟨[], ESl.nil W⟩
    · rw [hcN] at hel
      have key : ∀ i, ∃ x : ET × Value, i < len → (W.cell? (a.add (i * 4)) = some (.int .i64 x.1.op) ∧ W.cell? ((a.add (i * 4)).add 1) = some (.int .i64 x.1.num) ∧ W.cell? ((a.add (i * 4)).add 2) = some (.string x.1.name) ∧ W.cell? ((a.add (i * 4)).add 3) = some x.2) ∧ ESl W x.2 x.1.parts := by
        intro i
        by_cases hi : i < len
        · obtain ⟨cs', y', hc, ht⟩ := hel i hi
          obtain ⟨n', o0, o1, s2, v3, hlt, rfl, ⟨y3, h3⟩⟩ := cells_expr ht
          obtain ⟨l3, hl3⟩ := ih n' (by omega) v3 y3 h3
          obtain ⟨_, hcl, hat⟩ := World.cells?_some hc
          exact ⟨(.mk o0 o1 s2 l3, v3), fun _ => ⟨⟨hat 0 (by omega), hat 1 (by omega), hat 2 (by omega), hat 3 (by omega)⟩, hl3⟩⟩
        · exact ⟨(default, .bool false), fun h => absurd h hi⟩
      obtain ⟨b, off, spot⟩ := a
      by_cases h0 : len = 0
      · subst h0
        exact ⟨[], .mk _ 0 0 cap [] (fun _ => .bool false) (fun h => absurd h (by simp)) (Nat.zero_le _) hm (fun i h => absurd h (by simp)) (fun i h => absurd h (by simp))⟩
      · have hs : spot = none := by
          obtain ⟨x0, hx0⟩ := key 0
          exact spot_none (hx0 (by omega)).1.1
        subst hs
        simp only [addr_add] at key
        let l : List ET := (List.range len).map fun i => (Classical.choose (key i)).1
        have hll : l.length = len := by simp [l]
        have hat : ∀ i, i < len → l.getD i default = (Classical.choose (key i)).1 := fun i hi => range_getD _ _ _ _ hi
        have := ESl.mk (w := W) (some ⟨b, off, none⟩) b off cap l (fun i => (Classical.choose (key i)).2) (fun _ => rfl) (by omega) hm
          (fun i hi => by rw [hll] at hi; rw [hat i hi]; exact (Classical.choose_spec (key i) hi).1) (fun i hi => by rw [hll] at hi; rw [hat i hi]; exact (Classical.choose_spec (key i) hi).2)
        rw [hll] at this
        exact ⟨l, this⟩
theorem open_ss {H : Type} {enc : TypeId × Value → H} {W : World} {base : Nat} {held : Bool} : ∀ (fuel : Nat) (v : Value) (y : DataW H × List MemPlace), DataW.trod enc Tryd.prog W base (fun _ => true) held fuel 39 [v] = some y → ∃ l, SSl W v l := by
  intro fuel
  induction fuel using Nat.strongRecOn with
  | _ fuel ih =>
    intro v y h
    have hcN : Tryd.prog.cellsOf 93 = 6 := by kernel_rfl
    rcases open_elems Tryd.underlying39 h with rfl | ⟨a, len, cap, n, hn, rfl, hl, hm, hel⟩
    · exact ⟨[], SSl.nil W⟩
    · rw [hcN] at hel
      have key : ∀ i, ∃ x : ST × Value × Value × Value, i < len → (W.cell? (a.add (i * 6)) = some (.int .i64 x.1.op) ∧ W.cell? ((a.add (i * 6)).add 1) = some (.string x.1.name) ∧ W.cell? ((a.add (i * 6)).add 2) = some (.int .i64 x.1.num) ∧ W.cell? ((a.add (i * 6)).add 3) = some x.2.1 ∧ W.cell? ((a.add (i * 6)).add 4) = some x.2.2.1 ∧ W.cell? ((a.add (i * 6)).add 5) = some x.2.2.2) ∧ ESl W x.2.1 x.1.parts ∧ SSl W x.2.2.1 x.1.body ∧ SSl W x.2.2.2 x.1.els := by
        intro i
        by_cases hi : i < len
        · obtain ⟨cs', y', hc, ht⟩ := hel i hi
          obtain ⟨n', o0, s1, o2, v3, v4, v5, hlt, rfl, ⟨y3, h3⟩, ⟨y4, h4⟩, ⟨y5, h5⟩⟩ := cells_stmt ht
          obtain ⟨l3, hl3⟩ := open_es n' v3 y3 h3
          obtain ⟨l4, hl4⟩ := ih n' (by omega) v4 y4 h4
          obtain ⟨l5, hl5⟩ := ih n' (by omega) v5 y5 h5
          obtain ⟨_, hcl, hat⟩ := World.cells?_some hc
          exact ⟨(.mk o0 o2 s1 l3 l4 l5, v3, v4, v5), fun _ => ⟨⟨hat 0 (by omega), hat 1 (by omega), hat 2 (by omega), hat 3 (by omega), hat 4 (by omega), hat 5 (by omega)⟩, hl3, hl4, hl5⟩⟩
        · exact ⟨(default, .bool false, .bool false, .bool false), fun h => absurd h hi⟩
      obtain ⟨b, off, spot⟩ := a
      by_cases h0 : len = 0
      · subst h0
        exact ⟨[], .mk _ 0 0 cap [] (fun _ => .bool false) (fun _ => .bool false) (fun _ => .bool false) (fun h => absurd h (by simp)) (Nat.zero_le _) hm (fun i h => absurd h (by simp)) (fun i h => absurd h (by simp)) (fun i h => absurd h (by simp)) (fun i h => absurd h (by simp))⟩
      · have hs : spot = none := by
          obtain ⟨x0, hx0⟩ := key 0
          exact spot_none (hx0 (by omega)).1.1
        subst hs
        simp only [addr_add] at key
        let l : List ST := (List.range len).map fun i => (Classical.choose (key i)).1
        have hll : l.length = len := by simp [l]
        have hat : ∀ i, i < len → l.getD i default = (Classical.choose (key i)).1 := fun i hi => range_getD _ _ _ _ hi
        have := SSl.mk (w := W) (some ⟨b, off, none⟩) b off cap l (fun i => (Classical.choose (key i)).2.1) (fun i => (Classical.choose (key i)).2.2.1) (fun i => (Classical.choose (key i)).2.2.2) (fun _ => rfl) (by omega) hm
          (fun i hi => by rw [hll] at hi; rw [hat i hi]; exact (Classical.choose_spec (key i) hi).1) (fun i hi => by rw [hll] at hi; rw [hat i hi]; exact (Classical.choose_spec (key i) hi).2.1) (fun i hi => by rw [hll] at hi; rw [hat i hi]; exact (Classical.choose_spec (key i) hi).2.2.1) (fun i hi => by rw [hll] at hi; rw [hat i hi]; exact (Classical.choose_spec (key i) hi).2.2.2)
        rw [hll] at this
        exact ⟨l, this⟩
theorem open_ts {H : Type} {enc : TypeId × Value → H} {W : World} {base : Nat} {held : Bool} (fuel : Nat) (v : Value) (y : DataW H × List MemPlace) (h : DataW.trod enc Tryd.prog W base (fun _ => true) held fuel 56 [v] = some y) : ∃ l, TSl W v l := by
  have hcN : Tryd.prog.cellsOf 9 = 1 := by kernel_rfl
  rcases open_elems Tryd.underlying56 h with rfl | ⟨a, len, cap, n, hn, rfl, hl, hm, hel⟩
  · exact ⟨[], TSl.nil W⟩
  · rw [hcN] at hel
    have key : ∀ i, ∃ x : ByteArray, i < len → W.cell? (a.add (i * 1)) = some (.string x) := by
      intro i
      by_cases hi : i < len
      · obtain ⟨cs', y', hc, ht⟩ := hel i hi
        obtain ⟨s, rfl, _, _⟩ := DataW.trod_string Tryd.underlying9 ht
        obtain ⟨_, hcl, hat⟩ := World.cells?_some hc
        exact ⟨s, fun _ => hat 0 (by omega)⟩
      · exact ⟨ByteArray.empty, fun h => absurd h hi⟩
    obtain ⟨b, off, spot⟩ := a
    by_cases h0 : len = 0
    · subst h0
      exact ⟨[], .mk _ 0 0 cap [] (fun h => absurd h (by simp)) (Nat.zero_le _) hm (fun i h => absurd h (by simp))⟩
    · have hs : spot = none := spot_none (Classical.choose_spec (key 0) (by omega))
      subst hs
      simp only [addr_add, Nat.mul_one] at key
      let l : List ByteArray := (List.range len).map fun i => Classical.choose (key i)
      have hll : l.length = len := by simp [l]
      have hat : ∀ i, i < len → l.getD i ByteArray.empty = Classical.choose (key i) := fun i hi => range_getD _ _ _ _ hi
      have := TSl.mk (w := W) (some ⟨b, off, none⟩) b off cap l (fun _ => rfl) (by omega) hm (fun i hi => by rw [hll] at hi; rw [hat i hi]; exact Classical.choose_spec (key i) hi)
      rw [hll] at this
      exact ⟨l, this⟩
theorem open_fs {H : Type} {enc : TypeId × Value → H} {W : World} {base : Nat} {held : Bool} (fuel : Nat) (v : Value) (y : DataW H × List MemPlace) (h : DataW.trod enc Tryd.prog W base (fun _ => true) held fuel 38 [v] = some y) : ∃ l, FSl W v l := by
  have hcN : Tryd.prog.cellsOf 64 = 3 := by kernel_rfl
  rcases open_elems Tryd.underlying38 h with rfl | ⟨a, len, cap, n, hn, rfl, hl, hm, hel⟩
  · exact ⟨[], FSl.nil W⟩
  · rw [hcN] at hel
    have key : ∀ i, ∃ x : FT × Value × Value, i < len → (W.cell? (a.add (i * 3)) = some (.string x.1.name) ∧ W.cell? ((a.add (i * 3)).add 1) = some x.2.1 ∧ W.cell? ((a.add (i * 3)).add 2) = some x.2.2) ∧ TSl W x.2.1 x.1.params ∧ SSl W x.2.2 x.1.body := by
      intro i
      by_cases hi : i < len
      · obtain ⟨cs', y', hc, ht⟩ := hel i hi
        obtain ⟨n', s0, v1, v2, hlt, rfl, ⟨y3, h3⟩, ⟨y4, h4⟩⟩ := cells_func ht
        obtain ⟨l3, hl3⟩ := open_ts n' v1 y3 h3
        obtain ⟨l4, hl4⟩ := open_ss n' v2 y4 h4
        obtain ⟨_, hcl, hat⟩ := World.cells?_some hc
        exact ⟨(⟨s0, l3, l4⟩, v1, v2), fun _ => ⟨⟨hat 0 (by omega), hat 1 (by omega), hat 2 (by omega)⟩, hl3, hl4⟩⟩
      · exact ⟨(default, .bool false, .bool false), fun h => absurd h hi⟩
    obtain ⟨b, off, spot⟩ := a
    by_cases h0 : len = 0
    · subst h0
      exact ⟨[], .mk _ 0 0 cap [] (fun _ => .bool false) (fun _ => .bool false) (fun h => absurd h (by simp)) (Nat.zero_le _) hm (fun i h => absurd h (by simp)) (fun i h => absurd h (by simp)) (fun i h => absurd h (by simp))⟩
    · have hs : spot = none := by
        obtain ⟨x0, hx0⟩ := key 0
        exact spot_none (hx0 (by omega)).1.1
      subst hs
      simp only [addr_add] at key
      let l : List FT := (List.range len).map fun i => (Classical.choose (key i)).1
      have hll : l.length = len := by simp [l]
      have hat : ∀ i, i < len → l.getD i default = (Classical.choose (key i)).1 := fun i hi => range_getD _ _ _ _ hi
      have := FSl.mk (w := W) (some ⟨b, off, none⟩) b off cap l (fun i => (Classical.choose (key i)).2.1) (fun i => (Classical.choose (key i)).2.2) (fun _ => rfl) (by omega) hm
        (fun i hi => by rw [hll] at hi; rw [hat i hi]; exact (Classical.choose_spec (key i) hi).1) (fun i hi => by rw [hll] at hi; rw [hat i hi]; exact (Classical.choose_spec (key i) hi).2.1) (fun i hi => by rw [hll] at hi; rw [hat i hi]; exact (Classical.choose_spec (key i) hi).2.2)
      rw [hll] at this
      exact ⟨l, this⟩
theorem FSl.form {w : World} {v : Value} {l : List FT} (h : FSl w v l) : ∃ a n cap, v = .slice a n cap := by cases h; exact ⟨_, _, _, rfl⟩
theorem SSl.form {w : World} {v : Value} {l : List ST} (h : SSl w v l) : ∃ a n cap, v = .slice a n cap := by cases h; exact ⟨_, _, _, rfl⟩
theorem open_cap {H : Type} {enc : TypeId × Value → H} {W : World} {base : Nat} {held : Bool} {fuel : Nat} {a : Option Addr} {n k : Nat} {y : DataW H × List MemPlace} {t e : TypeId} (ht : Tryd.prog.underlying t = some (.slice e)) (h : DataW.trod enc Tryd.prog W base (fun _ => true) held fuel t [.slice a n k] = some y)
    (hz : ∀ m ∈ DataW.weights Tryd.prog t y.1, m ≤ reachBytes) : k * Tryd.prog.bytesOf e ≤ 140737488351232 := by
  rcases DataW.trod_slice ht h with ⟨hcs, _⟩ | ⟨a', len, cap, elems, rest, n', rfl, hcs, hx, hb, hl, hm, hlen, hel, hsp, _⟩
  · have : Value.slice a n k = .slice none 0 0 := (List.cons.inj hcs).1
    cases this; simp
  · have : Value.slice a n k = .slice (some a') len cap := (List.cons.inj hcs).1
    cases this
    have hr := (hsp rfl).1
    have := hz ((elems.length + rest.length) * Tryd.prog.bytesOf e) (by rw [hx]; simp [DataW.weights, ht])
    have e1 : elems.length + rest.length = k := by omega
    rw [e1] at this
    exact this
/-- A program that came in. -/
theorem open_prog {H : Type} {enc : TypeId × Value → H} {W : World} {b0 : Nat} {r : Reach} {v : Value} {d : DataW H} {p : List MemPlace} (hv : Value.okWide Tryd.prog W r b0 41 v) (h : DataW.Trod enc Tryd.prog W 0 (fun _ => true) true 41 v d p)
    (hz : ∀ m ∈ DataW.weights Tryd.prog 41 d, m ≤ reachBytes) :
    ∃ (a1 : Option Addr) (n1 k1 : Nat) (a2 : Option Addr) (n2 k2 : Nat) (P : PT), v = .agg #[.slice a1 n1 k1, .slice a2 n2 k2] ∧ PR W (.slice a1 n1 k1) (.slice a2 n2 k2) P ∧ k1 ≤ 2199023255488 ∧ k2 ≤ 1353245080300 := by
  obtain ⟨c0, c1, y0, y1, n, rfl, rfl, rfl, h0, h1⟩ := Joins.open_agg2 Tryd.underlying41 (by kernel_rfl) (by kernel_rfl) hv h
  obtain ⟨lf, hf⟩ := open_fs n c0 y0 h0
  obtain ⟨lm, hm⟩ := open_ss n c1 y1 h1
  obtain ⟨a1, n1, k1, rfl⟩ := hf.form
  obtain ⟨a2, n2, k2, rfl⟩ := hm.form
  have hw : DataW.weights Tryd.prog 41 (.agg [y0.1, y1.1]) = DataW.weights Tryd.prog 38 y0.1 ++ (DataW.weights Tryd.prog 39 y1.1 ++ []) := by
    simp [DataW.weights, DataW.weightsEach, Tryd.underlying41]
  rw [hw] at hz
  have z0 := open_cap Tryd.underlying38 h0 (fun m hm => hz m (List.mem_append.2 (.inl hm)))
  have z1 := open_cap Tryd.underlying39 h1 (fun m hm => hz m (List.mem_append.2 (.inr (List.mem_append.2 (.inl hm)))))
  rw [show Tryd.prog.bytesOf 64 = 64 by kernel_rfl] at z0
  rw [show Tryd.prog.bytesOf 93 = 104 by kernel_rfl] at z1
  exact ⟨a1, n1, k1, a2, n2, k2, ⟨lf, lm⟩, rfl, ⟨hf, hm⟩, by omega, by omega⟩
end Go.Proofs.YthfgagljplabpaaDoor
namespace Go.Proofs.YthfgagljplabpaaDoor
open Go.RowKit Go.Sort
set_option linter.unusedVariables false

theorem wrap_small {x : Int} (h0 : 0 ≤ x) (h : x ≤ 4611686018427387904) : wrap64 x = x := by
  unfold wrap64; omega
def up1 (x : Bool × Int) : Bool × Int := (x.1, x.2 + 1)
mutual
theorem ET.nodes_len : ∀ (e : ET) (d d' : Int), (e.nodes d).length = (e.nodes d').length
  | .mk o n s l, d, d' => by simp only [ET.nodes, List.length_cons]; rw [ET.nodesL_len l _ (wrap64 (d' + 1))]
theorem ET.nodesL_len : ∀ (l : List ET) (d d' : Int), (ET.nodesL l d).length = (ET.nodesL l d').length
  | [], _, _ => rfl
  | e :: r, d, d' => by simp only [ET.nodesL, List.length_append]; rw [ET.nodes_len e d d', ET.nodesL_len r d d']
end
mutual
theorem ST.nodes_len : ∀ (e : ST) (d d' : Int), (e.nodes d).length = (e.nodes d').length
  | .mk o n s l b e, d, d' => by simp only [ST.nodes, List.length_cons, List.length_append]; rw [ET.nodesL_len l _ (wrap64 (d' + 1)), ST.nodesL_len b _ (wrap64 (d' + 1)), ST.nodesL_len e _ (wrap64 (d' + 1))]
theorem ST.nodesL_len : ∀ (l : List ST) (d d' : Int), (ST.nodesL l d).length = (ST.nodesL l d').length
  | [], _, _ => rfl
  | e :: r, d, d' => by simp only [ST.nodesL, List.length_append]; rw [ST.nodes_len e d d', ST.nodesL_len r d d']
end
mutual
theorem ET.nodes_up : ∀ (e : ET) (d : Int), 0 ≤ d → d + (e.nodes 0).length ≤ 4611686018427387000 → e.nodes (d + 1) = (e.nodes d).map up1
  | .mk o n s l, d, h0, h => by
    simp only [ET.nodes, List.length_cons, List.map_cons, up1] at h ⊢
    rw [ET.nodesL_len l _ 0] at h
    rw [wrap_small (x := d + 1) (by omega) (by omega), wrap_small (x := d + 1 + 1) (by omega) (by omega), ET.nodesL_up l (d + 1) (by omega) (by omega)]
theorem ET.nodesL_up : ∀ (l : List ET) (d : Int), 0 ≤ d → d + (ET.nodesL l 0).length ≤ 4611686018427387000 → ET.nodesL l (d + 1) = (ET.nodesL l d).map up1
  | [], _, _, _ => rfl
  | e :: r, d, h0, h => by
    simp only [ET.nodesL, List.length_append, List.map_append] at h ⊢
    rw [ET.nodes_up e d h0 (by omega), ET.nodesL_up r d h0 (by omega)]
end
mutual
theorem ST.nodes_up : ∀ (e : ST) (d : Int), 0 ≤ d → d + (e.nodes 0).length ≤ 4611686018427387000 → e.nodes (d + 1) = (e.nodes d).map up1
  | .mk o n s l b e, d, h0, h => by
    simp only [ST.nodes, List.length_cons, List.map_cons, up1, List.length_append, List.map_append] at h ⊢
    rw [ET.nodesL_len l _ 0, ST.nodesL_len b _ 0, ST.nodesL_len e _ 0] at h
    rw [wrap_small (x := d + 1) (by omega) (by omega), wrap_small (x := d + 1 + 1) (by omega) (by omega), ET.nodesL_up l (d + 1) (by omega) (by omega), ST.nodesL_up b (d + 1) (by omega) (by omega), ST.nodesL_up e (d + 1) (by omega) (by omega)]
theorem ST.nodesL_up : ∀ (l : List ST) (d : Int), 0 ≤ d → d + (ST.nodesL l 0).length ≤ 4611686018427387000 → ST.nodesL l (d + 1) = (ST.nodesL l d).map up1
  | [], _, _, _ => rfl
  | e :: r, d, h0, h => by
    simp only [ST.nodesL, List.length_append, List.map_append] at h ⊢
    rw [ST.nodes_up e d h0 (by omega), ST.nodesL_up r d h0 (by omega)]
end
theorem depthF_from (l : List (Bool × Int)) : ∀ n : Int, 0 ≤ n → l.foldl (fun n x => max n x.2) n = max n (depthF l) := by
  induction l with
  | nil => intro n h; simp [depthF]; omega
  | cons x l ih =>
    intro n h
    have e1 := ih (max n x.2) (by omega)
    have e2 := ih (max 0 x.2) (by omega)
    simp only [depthF, List.foldl_cons] at e1 e2 ⊢
    rw [e1, e2]; omega
theorem depthF_nonneg (l : List (Bool × Int)) : 0 ≤ depthF l := by
  have := depthF_from l 0 (by omega)
  unfold depthF at this ⊢
  omega
theorem depthF_cons (x : Bool × Int) (l : List (Bool × Int)) : depthF (x :: l) = max (max 0 x.2) (depthF l) := by
  have := depthF_from l (max 0 x.2) (by omega)
  simpa [depthF] using this
theorem depthF_append (l r : List (Bool × Int)) : depthF (l ++ r) = max (depthF l) (depthF r) := by
  have := depthF_from r (depthF l) (depthF_nonneg l)
  rw [← this]; simp [depthF]
theorem depthF_up (l : List (Bool × Int)) (h : ∀ x ∈ l, 0 ≤ x.2) (hne : l ≠ []) : depthF (l.map up1) = depthF l + 1 := by
  induction l with
  | nil => exact absurd rfl hne
  | cons x l ih =>
    have hx := h x (by simp)
    rw [List.map_cons, depthF_cons, depthF_cons]
    by_cases hl : l = []
    · subst hl; simp only [up1, List.map_nil, depthF, List.foldl_nil]; omega
    · rw [ih (fun y hy => h y (by simp [hy])) hl]; simp only [up1]; have := depthF_nonneg l; omega
theorem sizeF_from (l : List (Bool × Int)) : ∀ n : Int, 0 ≤ n → n + l.length ≤ 4611686018427387904 → l.foldl (fun n _ => wrap64 (n + 1)) n = n + l.length := by
  induction l with
  | nil => intro n _ _; simp
  | cons x l ih =>
    intro n h0 h
    simp only [List.length_cons] at h
    rw [List.foldl_cons, wrap_small (by omega) (by omega), ih (n + 1) (by omega) (by omega)]
    simp only [List.length_cons]; omega
theorem sizeF_small (l : List (Bool × Int)) (h : l.length ≤ 4611686018427387904) : sizeF l = l.length := by
  have := sizeF_from l 0 (by omega) (by omega)
  rw [Int.zero_add] at this; exact this
mutual
theorem ET.nodes_ge : ∀ (e : ET) (d : Int), 1 ≤ d → d + (e.nodes 0).length ≤ 4611686018427387000 → ∀ x ∈ e.nodes d, d ≤ x.2
  | .mk o n s l, d, h0, h => by
    simp only [ET.nodes, List.length_cons] at h ⊢
    rw [ET.nodesL_len l _ 0] at h
    rw [wrap_small (x := d + 1) (by omega) (by omega)]
    intro x hx
    rcases List.mem_cons.1 hx with rfl | hx
    · exact Int.le_refl _
    · have := ET.nodesL_ge l (d + 1) (by omega) (by omega) x hx; omega
theorem ET.nodesL_ge : ∀ (l : List ET) (d : Int), 1 ≤ d → d + (ET.nodesL l 0).length ≤ 4611686018427387000 → ∀ x ∈ ET.nodesL l d, d ≤ x.2
  | [], _, _, _ => by intro x hx; simp [ET.nodesL] at hx
  | e :: r, d, h0, h => by
    simp only [ET.nodesL, List.length_append] at h ⊢
    intro x hx
    rcases List.mem_append.1 hx with hx | hx
    · exact ET.nodes_ge e d h0 (by omega) x hx
    · exact ET.nodesL_ge r d h0 (by omega) x hx
end
mutual
theorem ST.nodes_ge : ∀ (e : ST) (d : Int), 1 ≤ d → d + (e.nodes 0).length ≤ 4611686018427387000 → ∀ x ∈ e.nodes d, d ≤ x.2
  | .mk o n s l b e, d, h0, h => by
    simp only [ST.nodes, List.length_cons, List.length_append] at h ⊢
    rw [ET.nodesL_len l _ 0, ST.nodesL_len b _ 0, ST.nodesL_len e _ 0] at h
    rw [wrap_small (x := d + 1) (by omega) (by omega)]
    intro x hx
    rcases List.mem_cons.1 hx with rfl | hx
    · exact Int.le_refl _
    · rcases List.mem_append.1 hx with hx | hx
      · have := ET.nodesL_ge l (d + 1) (by omega) (by omega) x hx; omega
      · rcases List.mem_append.1 hx with hx | hx
        · have := ST.nodesL_ge b (d + 1) (by omega) (by omega) x hx; omega
        · have := ST.nodesL_ge e (d + 1) (by omega) (by omega) x hx; omega
theorem ST.nodesL_ge : ∀ (l : List ST) (d : Int), 1 ≤ d → d + (ST.nodesL l 0).length ≤ 4611686018427387000 → ∀ x ∈ ST.nodesL l d, d ≤ x.2
  | [], _, _, _ => by intro x hx; simp [ST.nodesL] at hx
  | e :: r, d, h0, h => by
    simp only [ST.nodesL, List.length_append] at h ⊢
    intro x hx
    rcases List.mem_append.1 hx with hx | hx
    · exact ST.nodes_ge e d h0 (by omega) x hx
    · exact ST.nodesL_ge r d h0 (by omega) x hx
end
def lone (l : List ST) : PT := ⟨[], l⟩
theorem lone_nodes (l : List ST) : (lone l).nodes = ST.nodesL l 1 := rfl
/-- The depth of what a statement with one small expression holds. -/
theorem held_depth (l : List ST) (hl : (ST.nodesL l 1).length ≤ 1048576) : ∀ (A : List (Bool × Int)) (x y : Bool), A = (x, 1) :: (y, 2) :: ST.nodesL l 2 → depthF A = max (lone l).depth 1 + 1 ∧ sizeF A = (lone l).size + 2 := by
  rintro A x y rfl
  have hup := ST.nodesL_up l 1 (by omega) (by rw [ST.nodesL_len l 0 1]; omega)
  have hge := ST.nodesL_ge l 1 (by omega) (by rw [ST.nodesL_len l 0 1]; omega)
  rw [show (1 : Int) + 1 = 2 from rfl] at hup
  unfold PT.depth PT.size
  rw [lone_nodes]
  refine ⟨?_, ?_⟩
  · rw [depthF_cons, depthF_cons, hup]
    by_cases h0 : ST.nodesL l 1 = []
    · rw [h0]; rfl
    · rw [depthF_up _ (fun z hz => by have := hge z hz; omega) h0]
      obtain ⟨z, r, hz⟩ := List.exists_cons_of_ne_nil h0
      have h1 : 1 ≤ depthF (ST.nodesL l 1) := by
        rw [hz, depthF_cons]; have := hge z (by rw [hz]; simp); omega
      omega
  · rw [sizeF_small _ (by simp only [List.length_cons]; rw [ST.nodesL_len l 2 1]; omega), sizeF_small _ (by omega)]
    simp only [List.length_cons]; rw [ST.nodesL_len l 2 1]; omega
/-- One number, as the law lays it. -/
def unitT : ET := .mk 1 1 ⟨#[]⟩ []
theorem deep_while (l : List ST) (hl : (ST.nodesL l 1).length ≤ 1048576) (s : ByteArray) : (lone [.mk 8 0 s [unitT] l []]).depth = max (lone l).depth 1 + 1 ∧ (lone [.mk 8 0 s [unitT] l []]).size = (lone l).size + 2 :=
  held_depth l hl _ (stmtB 8 0 s 1 l.length 0) (exprB 1 1 ⟨#[]⟩ 0) (by rw [lone_nodes]; simp [ST.nodesL, ST.nodes, ET.nodesL, ET.nodes, unitT, wrap64])
theorem deep_if (l : List ST) (hl : (ST.nodesL l 1).length ≤ 1048576) (s : ByteArray) : (lone [.mk 7 0 s [unitT] [] l]).depth = max (lone l).depth 1 + 1 ∧ (lone [.mk 7 0 s [unitT] [] l]).size = (lone l).size + 2 :=
  held_depth l hl _ (stmtB 7 0 s 1 0 l.length) (exprB 1 1 ⟨#[]⟩ 0) (by rw [lone_nodes]; simp [ST.nodesL, ST.nodes, ET.nodesL, ET.nodes, unitT, wrap64])
theorem deep_func (l : List ST) (s : ByteArray) (ps : List ByteArray) : (PT.mk [⟨s, ps, l⟩] []).depth = (lone l).depth ∧ (PT.mk [⟨s, ps, l⟩] []).size = (lone l).size := by
  have : (PT.mk [⟨s, ps, l⟩] []).nodes = (lone l).nodes := by simp [PT.nodes, lone, FT.nodesL, ST.nodesL]
  unfold PT.depth PT.size
  rw [this]; exact ⟨rfl, rfl⟩
theorem deep_both (l r : List ST) (hl : (ST.nodesL l 1).length ≤ 1048576) (hr : (ST.nodesL r 1).length ≤ 1048576) : (lone (l ++ r)).depth = max (lone l).depth (lone r).depth ∧ (lone (l ++ r)).size = (lone l).size + (lone r).size := by
  unfold PT.depth PT.size
  rw [lone_nodes, lone_nodes, lone_nodes, ST.nodesL_append]
  refine ⟨depthF_append _ _, ?_⟩
  rw [sizeF_small _ (by simp only [List.length_append]; omega), sizeF_small _ (by omega), sizeF_small _ (by omega)]
  simp
theorem deep_whole (p : PT) (hp : p.nodes.length ≤ 1048576) : (lone p.main).depth ≤ p.depth ∧ (lone p.main).size ≤ p.size := by
  unfold PT.depth PT.size
  rw [lone_nodes]
  unfold PT.nodes at hp ⊢
  rw [List.length_append] at hp
  refine ⟨by rw [depthF_append]; omega, ?_⟩
  rw [sizeF_small _ (by omega), sizeF_small _ (by simp only [List.length_append]; omega), List.length_append]
  omega
theorem ST.node_pos (e : ST) (d : Int) : 0 < (e.nodes d).length := by cases e; simp [ST.nodes]
theorem ST.le_nodesL (l : List ST) (d : Int) : l.length ≤ (ST.nodesL l d).length := by
  induction l with
  | nil => simp
  | cons e r ih => have := ST.node_pos e d; simp only [ST.nodesL, List.length_append, List.length_cons]; omega
theorem main_le (p : PT) (h : p.nodes.length ≤ 1048576) : p.main.length ≤ 1048576 ∧ (ST.nodesL p.main 1).length ≤ 1048576 := by
  unfold PT.nodes at h
  rw [List.length_append] at h
  have := ST.le_nodesL p.main 1
  omega
theorem depthF_le (l : List (Bool × Int)) (m : Int) (h0 : 0 ≤ m) (h : ∀ x ∈ l, x.2 ≤ m) : depthF l ≤ m := by
  induction l with
  | nil => simp [depthF]; exact h0
  | cons x l ih =>
    rw [depthF_cons]
    have := h x (by simp)
    have := ih (fun y hy => h y (by simp [hy]))
    omega
mutual
theorem ET.nodes_le : ∀ (e : ET) (d : Int), 1 ≤ d → d + (e.nodes 0).length ≤ 4611686018427387000 → ∀ x ∈ e.nodes d, x.2 < d + (e.nodes 0).length
  | .mk o n s l, d, h0, h => by
    simp only [ET.nodes, List.length_cons] at h ⊢
    rw [ET.nodesL_len l _ 0] at h
    rw [wrap_small (x := d + 1) (by omega) (by omega), ET.nodesL_len l (wrap64 (0 + 1)) 0]
    intro x hx
    rcases List.mem_cons.1 hx with rfl | hx
    · show d < _; omega
    · have := ET.nodesL_le l (d + 1) (by omega) (by omega) x hx; omega
theorem ET.nodesL_le : ∀ (l : List ET) (d : Int), 1 ≤ d → d + (ET.nodesL l 0).length ≤ 4611686018427387000 → ∀ x ∈ ET.nodesL l d, x.2 < d + (ET.nodesL l 0).length
  | [], _, _, _ => by intro x hx; simp [ET.nodesL] at hx
  | e :: r, d, h0, h => by
    simp only [ET.nodesL, List.length_append] at h ⊢
    intro x hx
    rcases List.mem_append.1 hx with hx | hx
    · have := ET.nodes_le e d h0 (by omega) x hx; omega
    · have := ET.nodesL_le r d h0 (by omega) x hx; omega
end
mutual
theorem ST.nodes_le : ∀ (e : ST) (d : Int), 1 ≤ d → d + (e.nodes 0).length ≤ 4611686018427387000 → ∀ x ∈ e.nodes d, x.2 < d + (e.nodes 0).length
  | .mk o n s l b e, d, h0, h => by
    simp only [ST.nodes, List.length_cons, List.length_append] at h ⊢
    rw [ET.nodesL_len l _ 0, ST.nodesL_len b _ 0, ST.nodesL_len e _ 0] at h
    rw [wrap_small (x := d + 1) (by omega) (by omega), ET.nodesL_len l (wrap64 (0 + 1)) 0, ST.nodesL_len b (wrap64 (0 + 1)) 0, ST.nodesL_len e (wrap64 (0 + 1)) 0]
    intro x hx
    rcases List.mem_cons.1 hx with rfl | hx
    · show d < _; omega
    · rcases List.mem_append.1 hx with hx | hx
      · have := ET.nodesL_le l (d + 1) (by omega) (by omega) x hx; omega
      · rcases List.mem_append.1 hx with hx | hx
        · have := ST.nodesL_le b (d + 1) (by omega) (by omega) x hx; omega
        · have := ST.nodesL_le e (d + 1) (by omega) (by omega) x hx; omega
theorem ST.nodesL_le : ∀ (l : List ST) (d : Int), 1 ≤ d → d + (ST.nodesL l 0).length ≤ 4611686018427387000 → ∀ x ∈ ST.nodesL l d, x.2 < d + (ST.nodesL l 0).length
  | [], _, _, _ => by intro x hx; simp [ST.nodesL] at hx
  | e :: r, d, h0, h => by
    simp only [ST.nodesL, List.length_append] at h ⊢
    intro x hx
    rcases List.mem_append.1 hx with hx | hx
    · have := ST.nodes_le e d h0 (by omega) x hx; omega
    · have := ST.nodesL_le r d h0 (by omega) x hx; omega
end
theorem deep_range (p : PT) (hp : p.nodes.length ≤ 1048576) : (0 ≤ (lone p.main).depth ∧ (lone p.main).depth ≤ 1048578) ∧ (0 ≤ (lone p.main).size ∧ (lone p.main).size ≤ 1048576) := by
  have hl := (main_le p hp).2
  refine ⟨⟨depthF_nonneg _, depthF_le _ _ (by omega) fun x hx => ?_⟩, ?_⟩
  · have := ST.nodesL_le p.main 1 (by omega) (by rw [ST.nodesL_len _ 0 1]; omega) x hx
    rw [ST.nodesL_len _ 0 1] at this; omega
  · unfold PT.size
    rw [lone_nodes, sizeF_small _ (by omega)]
    omega
end Go.Proofs.YthfgagljplabpaaDoor
namespace Go.Proofs.YthfgagljplabpaaDoor
open Go.RowKit Go.Sort Go.ChangeShapes
set_option linter.unusedVariables false
set_option maxRecDepth 100000

theorem bulk_mem {H : Type} (l : List (DataW H)) (f : Nat → Nat) : ∀ (n : Nat), (∀ i, i < n → ∃ x, l[i]? = some x ∧ f i ≤ Rows.uptoBulk x) → ((List.range n).map f).sum ≤ Rows.uptoBulkAll l := by
  induction l generalizing f with
  | nil =>
    intro n h
    cases n with
    | zero => simp
    | succ n => obtain ⟨x, hx, _⟩ := h 0 (by omega); simp at hx
  | cons d r ih =>
    intro n h
    cases n with
    | zero => simp
    | succ n =>
      obtain ⟨x, hx, hf⟩ := h 0 (by omega)
      simp only [List.getElem?_cons_zero, Option.some.injEq] at hx
      subst hx
      have := ih (fun i => f (i + 1)) n (fun i hi => by
        obtain ⟨y, hy, hfy⟩ := h (i + 1) (by omega)
        exact ⟨y, by simpa using hy, hfy⟩)
      rw [List.range_succ_eq_map, List.map_cons, List.sum_cons, List.map_map]
      have e : (f ∘ Nat.succ) = fun i => f (i + 1) := rfl
      rw [e]
      simp only [Rows.uptoBulkAll]
      omega
/-- The elements of a slice that was read, and what they weigh. -/
theorem bulk_elems {H : Type} {enc : TypeId × Value → H} {W : World} {base : Nat} {held : Bool} {fuel : Nat} {v : Value} {y : DataW H × List MemPlace} {t e : TypeId} (ht : Tryd.prog.underlying t = some (.slice e)) (h : DataW.trod enc Tryd.prog W base (fun _ => true) held fuel t [v] = some y)
    (f : Nat → Nat) (hf : ∀ (a : Addr) (len cap n i : Nat) cs' y', v = .slice (some a) len cap → n < fuel → i < len → W.cells? base (a.add (i * Tryd.prog.cellsOf e)) (Tryd.prog.cellsOf e) = some cs' → DataW.trod enc Tryd.prog W base (fun _ => true) held n e cs' = some y' → f i ≤ Rows.uptoBulk y'.1) :
    ∀ n, (v = .slice none 0 0 → n = 0) → (∀ a len cap, v = .slice (some a) len cap → n = len) → ((List.range n).map f).sum ≤ Rows.uptoBulk y.1 := by
  intro n h0 h1
  rcases DataW.trod_slice ht h with ⟨hcs, _⟩ | ⟨a, len, cap, elems, rest, n', hfu, hcs, hy, hb, hl, hm, hlen, hel, _, _⟩
  · rw [h0 (List.cons.inj hcs).1]; simp
  · have hv := (List.cons.inj hcs).1
    rw [h1 _ _ _ hv, hy]
    simp only [Rows.uptoBulk]
    have := bulk_mem (elems.map (·.1)) f len (fun i hi => by
      have hi' := hel i hi
      rw [List.getElem?_eq_getElem (by omega)] at hi'
      obtain ⟨cs', h1, h2⟩ := Option.bind_eq_some_iff.1 hi'
      exact ⟨(elems[i]'(by omega)).1, by rw [List.getElem?_map, List.getElem?_eq_getElem (by omega)]; rfl, hf a len cap n' i cs' _ hv (by omega) hi h1 h2⟩)
    omega
theorem nodesL_sum (l : List ET) (d : Int) : (ET.nodesL l d).length = ((List.range l.length).map fun i => ((l.getD i default).nodes d).length).sum := by
  induction l with
  | nil => rfl
  | cons e r ih =>
    rw [List.length_cons, List.range_succ_eq_map, List.map_cons, List.sum_cons, List.map_map]
    simp only [ET.nodesL, List.length_append, ih]
    rfl
theorem snodesL_sum (l : List ST) (d : Int) : (ST.nodesL l d).length = ((List.range l.length).map fun i => ((l.getD i default).nodes d).length).sum := by
  induction l with
  | nil => rfl
  | cons e r ih =>
    rw [List.length_cons, List.range_succ_eq_map, List.map_cons, List.sum_cons, List.map_map]
    simp only [ST.nodesL, List.length_append, ih]
    rfl
theorem fnodesL_sum (l : List FT) : (FT.nodesL l).length = ((List.range l.length).map fun i => (ST.nodesL (l.getD i default).body 1).length).sum := by
  induction l with
  | nil => rfl
  | cons e r ih =>
    rw [List.length_cons, List.range_succ_eq_map, List.map_cons, List.sum_cons, List.map_map]
    simp only [FT.nodesL, List.flatMap_cons, List.length_append] at ih ⊢
    rw [ih]
    rfl
theorem bulk_agg4 {H : Type} {W : World} {enc : TypeId × Value → H} {base : Nat} {held : Bool} {fuel : Nat} {cs : List Value} {y : DataW H × List MemPlace} (h : DataW.trod enc Tryd.prog W base (fun _ => true) held fuel 105 cs = some y) :
    ∃ n v3 y3, n < fuel ∧ cs[3]? = some v3 ∧ DataW.trod enc Tryd.prog W base (fun _ => true) held n 91 [v3] = some y3 ∧ Rows.uptoBulk y3.1 + 1 ≤ Rows.uptoBulk y.1 := by
  obtain ⟨xs, n, rfl, rfl, hl, hxl, hf⟩ := DataW.trod_struct Tryd.underlying105 h
  have hcN : Tryd.prog.cellsOf 105 = 4 := by kernel_rfl
  have hc_0 : Tryd.prog.cellsOf 91 = 1 := by kernel_rfl
  rw [hcN] at hl
  match cs, hl with
  | [w0, w1, w2, w3], _ =>
    match xs, hxl with
    | [y0, y1, y2, y3], _ =>
      have h3 := hf 3 _ rfl
      simp [hc_0] at h3
      refine ⟨n, w3, y3, Nat.lt_succ_self _, rfl, h3, ?_⟩
      simp only [List.map_cons, List.map_nil, Rows.uptoBulk, Rows.uptoBulkAll]
      omega
theorem bulk_agg6 {H : Type} {W : World} {enc : TypeId × Value → H} {base : Nat} {held : Bool} {fuel : Nat} {cs : List Value} {y : DataW H × List MemPlace} (h : DataW.trod enc Tryd.prog W base (fun _ => true) held fuel 93 cs = some y) :
    ∃ n v3 v4 v5 y3 y4 y5, n < fuel ∧ cs[3]? = some v3 ∧ cs[4]? = some v4 ∧ cs[5]? = some v5 ∧ DataW.trod enc Tryd.prog W base (fun _ => true) held n 91 [v3] = some y3 ∧ DataW.trod enc Tryd.prog W base (fun _ => true) held n 39 [v4] = some y4 ∧ DataW.trod enc Tryd.prog W base (fun _ => true) held n 39 [v5] = some y5 ∧
      Rows.uptoBulk y3.1 + (Rows.uptoBulk y4.1 + Rows.uptoBulk y5.1) + 1 ≤ Rows.uptoBulk y.1 := by
  obtain ⟨xs, n, rfl, rfl, hl, hxl, hf⟩ := DataW.trod_struct Tryd.underlying93 h
  have hcN : Tryd.prog.cellsOf 93 = 6 := by kernel_rfl
  have hc_0 : Tryd.prog.cellsOf 91 = 1 := by kernel_rfl
  have hc_1 : Tryd.prog.cellsOf 39 = 1 := by kernel_rfl
  rw [hcN] at hl
  match cs, hl with
  | [w0, w1, w2, w3, w4, w5], _ =>
    match xs, hxl with
    | [y0, y1, y2, y3, y4, y5], _ =>
      have h3 := hf 3 _ rfl
      have h4 := hf 4 _ rfl
      have h5 := hf 5 _ rfl
      simp [hc_0, hc_1] at h3 h4 h5
      refine ⟨n, w3, w4, w5, y3, y4, y5, Nat.lt_succ_self _, rfl, rfl, rfl, h3, h4, h5, ?_⟩
      simp only [List.map_cons, List.map_nil, Rows.uptoBulk, Rows.uptoBulkAll]
      omega
theorem bulk_agg3 {H : Type} {W : World} {enc : TypeId × Value → H} {base : Nat} {held : Bool} {fuel : Nat} {cs : List Value} {y : DataW H × List MemPlace} (h : DataW.trod enc Tryd.prog W base (fun _ => true) held fuel 64 cs = some y) :
    ∃ n v2 y2, n < fuel ∧ cs[2]? = some v2 ∧ DataW.trod enc Tryd.prog W base (fun _ => true) held n 39 [v2] = some y2 ∧ Rows.uptoBulk y2.1 + 1 ≤ Rows.uptoBulk y.1 := by
  obtain ⟨xs, n, rfl, rfl, hl, hxl, hf⟩ := DataW.trod_struct Tryd.underlying64 h
  have hcN : Tryd.prog.cellsOf 64 = 3 := by kernel_rfl
  have hc_1 : Tryd.prog.cellsOf 39 = 1 := by kernel_rfl
  rw [hcN] at hl
  match cs, hl with
  | [w0, w1, w2], _ =>
    match xs, hxl with
    | [y0, y1, y2], _ =>
      have h2 := hf 2 _ rfl
      simp [hc_1] at h2
      refine ⟨n, w2, y2, Nat.lt_succ_self _, rfl, h2, ?_⟩
      simp only [List.map_cons, List.map_nil, Rows.uptoBulk, Rows.uptoBulkAll]
      omega
/-- A cell of an element that was read, and what lies there. -/
theorem cells_here {W : World} {base : Nat} {b off k c i : Nat} {cs : List Value} (h : W.cells? base ((⟨b, off, none⟩ : Addr).add k) c = some cs) {v v' : Value} (hv : cs[i]? = some v) (hi : i < c) (h' : W.cell? ⟨b, off + k + i, none⟩ = some v') : v = v' := by
  obtain ⟨_, hl, hat⟩ := World.cells?_some h
  have h1 := hat i (by omega)
  rw [addr_add, addr_add, h'] at h1
  have h2 : cs[i]? = some (cs[i]'(by omega)) := List.getElem?_eq_getElem _
  exact Option.some.inj (hv.symm.trans (by first | exact h1.symm | exact h2.trans h1.symm))
theorem bulk_es {H : Type} {enc : TypeId × Value → H} {W : World} {base : Nat} {held : Bool} : ∀ (fuel : Nat) (v : Value) (y : DataW H × List MemPlace), DataW.trod enc Tryd.prog W base (fun _ => true) held fuel 91 [v] = some y → ∀ l, ESl W v l → ∀ d, (ET.nodesL l d).length ≤ Rows.uptoBulk y.1 := by
  intro fuel
  induction fuel using Nat.strongRecOn with
  | _ fuel ih =>
    intro v y h l hl d
    cases hl with
    | mk a b off cap l f ha hc hm hcell hsub =>
      rw [nodesL_sum]
      have hcN : Tryd.prog.cellsOf 105 = 4 := by kernel_rfl
      refine bulk_elems Tryd.underlying91 h _ ?_ _ ?_ ?_
      · intro ad len cap' n i cs' y' hv hn hi hcs ht
        cases hv
        cases ha (by omega)
        rw [hcN] at hcs
        obtain ⟨n', v3, y3, hn', h3, ht3, hle⟩ := bulk_agg4 ht
        have e3 := cells_here hcs h3 (by omega) (hcell i hi).2.2.2
        subst e3
        have := ih n' (by omega) _ y3 ht3 _ (hsub i hi) (wrap64 (d + 1))
        rw [ET.nodes_eq, List.length_cons]
        omega
      · intro hv; injection hv
      · intro ad len cap' hv; injection hv
theorem bulk_ss {H : Type} {enc : TypeId × Value → H} {W : World} {base : Nat} {held : Bool} : ∀ (fuel : Nat) (v : Value) (y : DataW H × List MemPlace), DataW.trod enc Tryd.prog W base (fun _ => true) held fuel 39 [v] = some y → ∀ l, SSl W v l → ∀ d, (ST.nodesL l d).length ≤ Rows.uptoBulk y.1 := by
  intro fuel
  induction fuel using Nat.strongRecOn with
  | _ fuel ih =>
    intro v y h l hl d
    cases hl with
    | mk a b off cap l f g hh ha hc hm hcell he hb hx =>
      rw [snodesL_sum]
      have hcN : Tryd.prog.cellsOf 93 = 6 := by kernel_rfl
      refine bulk_elems Tryd.underlying39 h _ ?_ _ ?_ ?_
      · intro ad len cap' n i cs' y' hv hn hi hcs ht
        cases hv
        cases ha (by omega)
        rw [hcN] at hcs
        obtain ⟨n', v3, v4, v5, y3, y4, y5, hn', h3, h4, h5, ht3, ht4, ht5, hle⟩ := bulk_agg6 ht
        have e3 := cells_here hcs h3 (by omega) (hcell i hi).2.2.2.1
        have e4 := cells_here hcs h4 (by omega) (hcell i hi).2.2.2.2.1
        have e5 := cells_here hcs h5 (by omega) (hcell i hi).2.2.2.2.2
        subst e3 e4 e5
        have z3 := bulk_es n' _ y3 ht3 _ (he i hi) (wrap64 (d + 1))
        have z4 := ih n' (by omega) _ y4 ht4 _ (hb i hi) (wrap64 (d + 1))
        have z5 := ih n' (by omega) _ y5 ht5 _ (hx i hi) (wrap64 (d + 1))
        rw [ST.nodes_eq, List.length_cons, List.length_append, List.length_append]
        omega
      · intro hv; injection hv
      · intro ad len cap' hv; injection hv
theorem bulk_fs {H : Type} {enc : TypeId × Value → H} {W : World} {base : Nat} {held : Bool} (fuel : Nat) (v : Value) (y : DataW H × List MemPlace) (h : DataW.trod enc Tryd.prog W base (fun _ => true) held fuel 38 [v] = some y) (l : List FT) (hl : FSl W v l) : (FT.nodesL l).length ≤ Rows.uptoBulk y.1 := by
  cases hl with
  | mk a b off cap l f g ha hc hm hcell ht hb =>
    rw [fnodesL_sum]
    have hcN : Tryd.prog.cellsOf 64 = 3 := by kernel_rfl
    refine bulk_elems Tryd.underlying38 h _ ?_ _ ?_ ?_
    · intro ad len cap' n i cs' y' hv hn hi hcs ht'
      cases hv
      cases ha (by omega)
      rw [hcN] at hcs
      obtain ⟨n', v2, y2, hn', h2, ht2, hle⟩ := bulk_agg3 ht'
      have e2 := cells_here hcs h2 (by omega) (hcell i hi).2.2
      subst e2
      have := bulk_ss n' _ y2 ht2 _ (hb i hi) 1
      omega
    · intro hv; injection hv
    · intro ad len cap' hv; injection hv
/-- A program that was read has no more nodes than its bulk. -/
theorem bulk_prog {H : Type} {enc : TypeId × Value → H} {W : World} {b0 : Nat} {r : Reach} {pa qa : Option Addr} {pn pk qn qk : Nat} {P : PT} {d : DataW H} {pl : List MemPlace} (hv : Value.okWide Tryd.prog W r b0 41 (.agg #[.slice pa pn pk, .slice qa qn qk])) (h : DataW.Trod enc Tryd.prog W 0 (fun _ => true) true 41 (.agg #[.slice pa pn pk, .slice qa qn qk]) d pl) (hP : PR W (.slice pa pn pk) (.slice qa qn qk) P) : P.nodes.length ≤ Rows.uptoBulk d := by
  obtain ⟨c0, c1, y0, y1, n, hv, rfl, rfl, h0, h1⟩ := Joins.open_agg2 Tryd.underlying41 (by kernel_rfl) (by kernel_rfl) hv h
  have e0 := congrArg (fun v => v.cells[0]?) hv
  have e1 := congrArg (fun v => v.cells[1]?) hv
  simp [Value.cells] at e0 e1
  subst e0 e1
  have z0 := bulk_fs n _ y0 h0 _ hP.1
  have z1 := bulk_ss n _ y1 h1 _ hP.2 1
  simp only [Rows.uptoBulk, Rows.uptoBulkAll]
  unfold PT.nodes
  rw [List.length_append]
  omega
end Go.Proofs.YthfgagljplabpaaDoor
