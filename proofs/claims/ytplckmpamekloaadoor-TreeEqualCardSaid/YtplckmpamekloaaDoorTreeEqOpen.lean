/- A program's first name, and a statement, that came in. -/
import Derived.Test.YtplckmpamekloaaDoorTreeEqw
namespace Go.Proofs.YtplckmpamekloaaDoor
open Go.RowKit Go.Sort Go.ChangeShapes
set_option linter.unusedVariables false

set_option maxRecDepth 100000 in
/-- The first function's name is no longer than the reach. -/
theorem open_name {H : Type} {enc : TypeId × Value → H} {W : World} {b0 : Nat} {r : Reach} {a1 a2 : Option Addr} {n1 k1 n2 k2 : Nat} {P : PT} {d : DataW H} {p : List MemPlace} (hv : Value.okWide Tryd.prog W r b0 25 (.agg #[.slice a1 n1 k1, .slice a2 n2 k2]))
    (h : DataW.Trod enc Tryd.prog W 0 (fun _ => true) true 25 (.agg #[.slice a1 n1 k1, .slice a2 n2 k2]) d p) (hz : ∀ m ∈ DataW.weights Tryd.prog 25 d, m ≤ reachBytes) (o : Came W a1 n1 k1 a2 n2 k2 P) :
    0 < n1 → (P.funcs.getD 0 default).name.size ≤ 140737488355328 := by
  intro hpos
  obtain ⟨c0, c1, y0, y1, n, e, rfl, rfl, h0, h1⟩ := Joins.open_agg2 Tryd.underlying25 (by kernel_rfl) (by kernel_rfl) hv h
  obtain ⟨rfl, rfl⟩ : Value.slice a1 n1 k1 = c0 ∧ Value.slice a2 n2 k2 = c1 := by simpa using e
  have hw : DataW.weights Tryd.prog 25 (.agg [y0.1, y1.1]) = DataW.weights Tryd.prog 22 y0.1 ++ (DataW.weights Tryd.prog 23 y1.1 ++ []) := by
    simp [DataW.weights, DataW.weightsEach, Tryd.underlying25]
  rw [hw] at hz
  have hz0 : ∀ m ∈ DataW.weights Tryd.prog 22 y0.1, m ≤ reachBytes := fun m hm => hz m (List.mem_append.2 (.inl hm))
  clear hz hw h1 h
  have hc3 : Tryd.prog.cellsOf 35 = 3 := by kernel_rfl
  have hc1 : Tryd.prog.cellsOf 9 = 1 := by kernel_rfl
  rcases Go.Deep.open_slice Tryd.underlying22 h0 with ⟨hcs, _⟩ | ⟨a, len, cap, m, n', D, Pl, hcs, _, hl, hm, hmm, rfl, hx⟩
  · have : Value.slice a1 n1 k1 = .slice none 0 0 := (List.cons.inj hcs).1
    cases this
    omega
  · have : Value.slice a1 n1 k1 = .slice (some a) len cap := (List.cons.inj hcs).1
    cases this
    obtain ⟨cs', hcc, ht⟩ := hx 0 (by rw [hmm]; split <;> omega)
    rw [hc3] at hcc
    obtain ⟨xs, n'', _, hy, hl', hxl, hf⟩ := DataW.trod_struct Tryd.underlying35 ht
    obtain ⟨_, _, hat⟩ := World.cells?_some hcc
    rw [hc3] at hl'
    have hS : ∃ s : ByteArray, cs'[0]? = some (.string s) ∧ xs.map (·.1) ≠ [] ∧ (xs.map (·.1))[0]? = some (.lit (.string s.data.toList)) := by
      match cs', hl' with
      | [w0, w1, w2], _ =>
        match xs, hxl with
        | [z0, z1, z2], _ =>
          have g0 := hf 0 _ rfl
          simp [hc1] at g0
          obtain ⟨s, e0, e1, _⟩ := DataW.trod_string Tryd.underlying9 g0
          cases e0
          exact ⟨s, rfl, by simp, by simp [e1]⟩
    obtain ⟨s, hs0, _, hs1⟩ := hS
    have hname : (P.funcs.getD 0 default).name = s := by
      have hc := o.1.1
      generalize hvv : Value.slice (some a) n1 k1 = vv at hc
      cases hc with
      | mk a' b off cap' l f g ha _ _ hcell _ _ =>
        cases hvv
        have ea := ha hpos
        injection ea with ea
        subst ea
        have hcz := (hcell 0 hpos).1
        have hat0 := hat 0 (by omega)
        simp only [Nat.zero_mul, addr_add, Nat.add_zero, hs0] at hat0
        rw [Nat.zero_mul, Nat.add_zero, hat0] at hcz
        injection hcz with hcz
        injection hcz with hcz
        exact hcz.symm
    rw [hname]
    have hmem : s.data.toList.length ∈ DataW.weights Tryd.prog 22 (.slice ((List.range n1).map D) ((List.range (m - n1)).map fun j => D (n1 + j))) := by
      have hD : s.data.toList.length ∈ DataW.weights Tryd.prog 35 (D 0) := by
        have hy0 : D 0 = .agg (xs.map (·.1)) := congrArg Prod.fst hy
        rw [hy0]
        generalize xs.map (·.1) = L at hs1
        cases L with
        | nil => cases hs1
        | cons z L =>
          obtain rfl : z = .lit (.string s.data.toList) := by simpa using hs1
          simp [DataW.weights, DataW.weightsEach, Tryd.underlying35]
      obtain ⟨k, rfl⟩ : ∃ k, n1 = k + 1 := ⟨n1 - 1, by omega⟩
      rw [List.range_succ_eq_map]
      simp only [DataW.weights, Tryd.underlying22, List.map_cons, DataW.weightsAll]
      exact List.mem_cons_of_mem _ (List.mem_append.2 (.inl (List.mem_append.2 (.inl hD))))
    have := hz0 _ hmem
    rw [Array.length_toList] at this
    exact Nat.le_trans this (by decide)
/-- A statement in memory, by value. -/
def CameS (w : World) (v : Value) (s : ST) : Prop := ∃ (a3 a4 a5 : Option Addr) (n3 c3 n4 c4 n5 c5 : Nat), v = .agg #[.int .i64 s.op, .string s.name, .int .i64 s.num, .slice a3 n3 c3, .slice a4 n4 c4, .slice a5 n5 c5] ∧ ESl w (.slice a3 n3 c3) s.parts ∧ SSl w (.slice a4 n4 c4) s.body ∧ SSl w (.slice a5 n5 c5) s.els
theorem open_stmt {H : Type} {enc : TypeId × Value → H} {W : World} {b0 : Nat} {r : Reach} {v : Value} {d : DataW H} {p : List MemPlace} (hv : Value.okWide Tryd.prog W r b0 38 v) (h : DataW.Trod enc Tryd.prog W 0 (fun _ => true) true 38 v d p) : ∃ s : ST, CameS W v s := by
  obtain ⟨cs, rfl, hsz⟩ := Go.WideShapes.okWide_struct Tryd.underlying38 hv
  obtain ⟨fuel, hf⟩ := h
  have hf' : DataW.trod enc Tryd.prog W 0 (fun _ => true) true fuel 38 cs.toList = some (d, p) := by simpa [Value.cells] using hf
  obtain ⟨n, o0, s1, o2, v3, v4, v5, _, hcs, ⟨y3, h3⟩, ⟨y4, h4⟩, ⟨y5, h5⟩⟩ := cells_stmt hf'
  obtain ⟨l3, k3⟩ := open_es n v3 y3 h3
  obtain ⟨l4, k4⟩ := open_ss n v4 y4 h4
  obtain ⟨l5, k5⟩ := open_ss n v5 y5 h5
  obtain ⟨a3, n3, c3, rfl⟩ := shape3 k3
  obtain ⟨a4, n4, c4, rfl⟩ := k4.form
  obtain ⟨a5, n5, c5, rfl⟩ := k5.form
  refine ⟨.mk o0 o2 s1 l3 l4 l5, a3, a4, a5, n3, c3, n4, c4, n5, c5, ?_, k3, k4, k5⟩
  congr 1
  exact Array.toList_inj.1 hcs
theorem equal_walk (a1 : Option Addr) (n1 k1 : Nat) (a2 : Option Addr) (n2 k2 : Nat) (p : PT) (c1 : Option Addr) (m1 j1 : Nat) (c2 : Option Addr) (m2 j2 : Nat) (q : PT) (v : Value) (w : World) (o0 : Came w a1 n1 k1 a2 n2 k2 p) (o1 : Came w c1 m1 j1 c2 m2 j2 q) (o2 : ∃ s, CameS w v s) (hns : 0 < n1 → (p.funcs.getD 0 default).name.size ≤ 140737488355328) (ht : Tab w) :
    Calls Tryd.prog 6 #[.agg #[.slice a1 n1 k1, .slice a2 n2 k2], .agg #[.slice c1 m1 j1, .slice c2 m2 j2], v] w fun e w' => e = .returned (.bool true) ∧ Below w.heap.size w w' := by
  obtain ⟨s, a3, a4, a5, n3, c3, n4, c4, n5, c5, rfl, h3, h4, h5⟩ := o2
  exact equal_core a1 a2 n1 n2 k1 k2 p c1 c2 m1 m2 j1 j2 q s a3 a4 a5 n3 c3 n4 c4 n5 c5 w ht o0.1 o0.2.1 o0.2.2 o1.1 hns h3 h4 h5
end Go.Proofs.YtplckmpamekloaaDoor
