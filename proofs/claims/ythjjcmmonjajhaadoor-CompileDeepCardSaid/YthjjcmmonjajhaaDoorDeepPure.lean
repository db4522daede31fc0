/- CompileDeep's plain law: so many times Neg of a number. -/
import Derived.Test.YthjjcmmonjajhaaDoorCompShown
import Derived.Test.YthjjcmmonjajhaaDoorTreeDeepLaws
namespace Go.Proofs.YthjjcmmonjajhaaDoor
open Go.RowKit Go.Sort
set_option linter.unusedVariables false

def deepE : Nat → Int → ET
  | 0, n => .mk 1 n ByteArray.empty []
  | d + 1, n => .mk 6 0 ByteArray.empty [deepE d n]
def deepP (d : Nat) (n : Int) : PT := ⟨[], [.mk 6 0 ByteArray.empty [deepE d n] [] []]⟩
theorem const_ok {n : Int} (h0 : 0 ≤ n) (h1 : n ≤ 9223372036854775807) : exprB 1 n ByteArray.empty 0 = true := by
  have e : exprB 1 n ByteArray.empty 0 = (decide (0 ≤ n) && (decide (n ≤ 9223372036854775807) && true)) := by kernel_rfl
  rw [e, decide_eq_true h0, decide_eq_true h1]; rfl
theorem deep_nodes {n : Int} (h0 : 0 ≤ n) (h1 : n ≤ 9223372036854775807) : ∀ (d : Nat) (k : Int), 0 ≤ k → k + d ≤ 1000 → ((deepE d n).nodes k).length = d + 1 ∧ ∀ x ∈ (deepE d n).nodes k, x.1 = true ∧ x.2 ≤ k + d
  | 0, k, hk, hd => by
    simp only [deepE, ET.nodes, ET.nodesL, List.length_nil]
    refine ⟨rfl, fun x hx => ?_⟩
    rw [List.mem_singleton.1 hx]
    exact ⟨const_ok h0 h1, by show k ≤ _; omega⟩
  | d + 1, k, hk, hd => by
    have hw : wrap64 (k + 1) = k + 1 := by unfold wrap64; omega
    obtain ⟨q1, q2⟩ := deep_nodes h0 h1 d (k + 1) (by omega) (by omega)
    have e : (deepE (d + 1) n).nodes k = (exprB 6 0 ByteArray.empty 1, k) :: ((deepE d n).nodes (k + 1) ++ []) := by
      simp only [deepE, ET.nodes, ET.nodesL, List.length_cons, List.length_nil]; rw [hw]
    rw [e, List.append_nil]
    refine ⟨by rw [List.length_cons, q1], fun x hx => ?_⟩
    rcases List.mem_cons.1 hx with rfl | hx
    · exact ⟨(by decide +kernel : exprB 6 0 ByteArray.empty 1 = true), by show k ≤ _; omega⟩
    · have := q2 x hx
      exact ⟨this.1, by have := this.2; omega⟩
theorem deep_gather (cl : ByteArray → Nat → Bool) (n : Int) : ∀ (d : Nat) (st : FS), (deepE d n).gather cl st = st
  | 0, st => rfl
  | d + 1, st => by
    have e : (deepE (d + 1) n).gather cl st = (deepE d n).gather cl st := rfl
    rw [e]; exact deep_gather cl n d st
theorem deep_code (all : List SC) (sc : SC) (n : Int) : ∀ d : Nat, (deepE d n).code all sc = ⟨1, 0, n⟩ :: List.replicate d ⟨4, 0, 0⟩
  | 0 => rfl
  | d + 1 => by
    have e : (deepE (d + 1) n).code all sc = ((deepE d n).code all sc ++ []) ++ [insE all sc 6 0 ByteArray.empty] := rfl
    have i : insE all sc 6 0 ByteArray.empty = ⟨4, 0, 0⟩ := by
      unfold insE
      rw [if_neg (by decide), if_neg (by decide), if_neg (by decide), if_neg (by decide), if_neg (by decide)]
      have : wrap64 (wrap64 (6 - 6) + 4) = 4 := by unfold wrap64; omega
      rw [this]
    rw [e, List.append_nil, deep_code all sc n d, i, List.cons_append, ← List.replicate_succ']
theorem deep_pnodes {d : Nat} (hd : d ≤ 60) {n : Int} (h0 : 0 ≤ n) (h1 : n ≤ 9223372036854775807) : (deepP d n).nodes.length = d + 2 ∧ ∀ x ∈ (deepP d n).nodes, x.1 = true ∧ x.2 ≤ 62 := by
  have hw : wrap64 (1 + 1) = 2 := by unfold wrap64; omega
  obtain ⟨q1, q2⟩ := deep_nodes h0 h1 d 2 (by omega) (by omega)
  have e : (deepP d n).nodes = (stmtB 6 0 ByteArray.empty 1 0 0, 1) :: (((deepE d n).nodes 2 ++ []) ++ ([] ++ []) ++ []) := by
    unfold PT.nodes deepP
    simp only [FT.nodesL, ST.nodesL, ST.nodes, ET.nodesL, List.length_cons, List.length_nil, List.flatMap_nil]
    rw [hw]
    simp
  rw [e]
  simp only [List.append_nil]
  refine ⟨by rw [List.length_cons, q1], fun x hx => ?_⟩
  rcases List.mem_cons.1 hx with rfl | hx
  · exact ⟨(by decide +kernel : stmtB 6 0 ByteArray.empty 1 0 0 = true), by decide⟩
  · have := q2 x hx
    exact ⟨this.1, by have := this.2; omega⟩
theorem deep_resolve {d : Nat} (hd : d ≤ 60) {n : Int} (h0 : 0 ≤ n) (h1 : n ≤ 9223372036854775807) : (deepP d n).resolve = 0 := by
  obtain ⟨q1, q2⟩ := deep_pnodes hd h0 h1
  have hr : (deepP d n).right = 0 := by
    unfold PT.right
    have e1 : (deepP d n).headsB = true := rfl
    have e2 : (deepP d n).nodes.all (·.1) = true := List.all_eq_true.2 fun x hx => (q2 x hx).1
    have e3 : ¬ 64 < (deepP d n).depth := by
      have := depthF_le (deepP d n).nodes 62 (by decide) (fun x hx => (q2 x hx).2)
      unfold PT.depth
      omega
    rw [e1, e2, Bool.and_self, if_pos rfl, if_neg e3]
  have hf : ∀ f ∈ (deepP d n).all, f.found (deepP d n).funcs = FS.init := by
    intro f hf
    rw [List.mem_singleton.1 (show f ∈ [(⟨ByteArray.empty, [], (deepP d n).main⟩ : FT)] from hf)]
    have e : FT.found (deepP d n).funcs ⟨ByteArray.empty, [], (deepP d n).main⟩ = (deepE d n).gather (callB (deepP d n).funcs) FS.init := rfl
    rw [e]; exact deep_gather _ _ _ _
  have a1 : (deepP d n).all.any (fun f => !(f.found (deepP d n).funcs).fits) = false := by
    rw [List.any_eq_false]
    intro f h
    rw [hf f h]; decide
  have a2 : (deepP d n).all.any (fun f => (f.found (deepP d n).funcs).full) = false := by
    rw [List.any_eq_false]
    intro f h
    rw [hf f h]; decide
  unfold PT.resolve
  rw [if_pos hr, a1, a2]
  rfl
theorem deep_compiled (d : Nat) (n : Int) : (deepP d n).code = [⟨ByteArray.empty, 0, 0, 0, (⟨1, 0, n⟩ :: List.replicate d ⟨4, 0, 0⟩) ++ [⟨20, 0, 0⟩] ++ [⟨1, 0, 0⟩] ++ [⟨18, 0, 0⟩]⟩] := by
  have hf : FT.found (deepP d n).funcs ⟨ByteArray.empty, [], (deepP d n).main⟩ = FS.init := by
    have e : FT.found (deepP d n).funcs ⟨ByteArray.empty, [], (deepP d n).main⟩ = (deepE d n).gather (callB (deepP d n).funcs) FS.init := rfl
    rw [e]; exact deep_gather _ _ _ _
  have e : (deepP d n).code = [FT.vf (deepP d n) ⟨ByteArray.empty, [], (deepP d n).main⟩] := rfl
  rw [e]
  unfold FT.vf FT.code FT.sc
  rw [hf]
  have c : ∀ sc, ST.codeL (deepP d n).scopes sc (deepP d n).main 0 = (deepE d n).code (deepP d n).scopes sc ++ [⟨20, 0, 0⟩] := by
    intro sc
    have e1 : ST.codeL (deepP d n).scopes sc (deepP d n).main 0 = ((((deepE d n).code (deepP d n).scopes sc ++ []) ++ [insS sc 6 0 ByteArray.empty]) ++ []) := rfl
    rw [e1, List.append_nil, List.append_nil]; rfl
  rw [c, deep_code]
  rfl
end Go.Proofs.YthjjcmmonjajhaaDoor
