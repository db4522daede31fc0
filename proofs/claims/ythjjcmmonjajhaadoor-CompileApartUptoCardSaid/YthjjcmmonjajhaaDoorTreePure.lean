/- What the tree's calls compute, as plain functions. -/
import Derived.Test.YthjjcmmonjajhaaDoorTreeRep
import Derived.Test.YthjjcmmonjajhaaDoorTreeTab
namespace Go.Proofs.YthjjcmmonjajhaaDoor
open Go.RowKit Go.Sort
set_option linter.unusedVariables false

def exprFits (i : Nat) (s : ByteArray) (n k : Int) : Bool := fitsB (exprRow i).1 (exprRow i).2.1 (exprRow i).2.2.1 (exprRow i).2.2.2.1 s n k
def stmtFits (i : Nat) (s : ByteArray) (n k : Int) : Bool := fitsB (stmtRow i).1 (stmtRow i).2.1 (stmtRow i).2.2.1 (stmtRow i).2.2.2.1 s n k
/-- Is an expression right but for its parts? -/
def exprB (o n : Int) (s : ByteArray) (k : Nat) : Bool := decide (1 ≤ o ∧ o < 17) && exprFits o.toNat s n k
def stmtB (o n : Int) (s : ByteArray) (k body els : Nat) : Bool :=
  decide (1 ≤ o ∧ o < 10) && (stmtFits o.toNat s n k && (((stmtRow o.toNat).2.2.2.2.1 || decide (body = 0)) && ((stmtRow o.toNat).2.2.2.2.2 || decide (els = 0))))
mutual
def ET.nodes : ET → Int → List (Bool × Int)
  | .mk o n s l, d => (exprB o n s l.length, d) :: ET.nodesL l (wrap64 (d + 1))
def ET.nodesL : List ET → Int → List (Bool × Int)
  | [], _ => []
  | e :: r, d => ET.nodes e d ++ ET.nodesL r d
end
mutual
def ST.nodes : ST → Int → List (Bool × Int)
  | .mk o n s l b e, d => (stmtB o n s l.length b.length e.length, d) :: (ET.nodesL l (wrap64 (d + 1)) ++ (ST.nodesL b (wrap64 (d + 1)) ++ ST.nodesL e (wrap64 (d + 1))))
def ST.nodesL : List ST → Int → List (Bool × Int)
  | [], _ => []
  | e :: r, d => ST.nodes e d ++ ST.nodesL r d
end
theorem ET.nodesL_append (l r : List ET) (d : Int) : ET.nodesL (l ++ r) d = ET.nodesL l d ++ ET.nodesL r d := by
  induction l with
  | nil => simp [ET.nodesL]
  | cons x l ih => simp [ET.nodesL, ih]
theorem ST.nodesL_append (l r : List ST) (d : Int) : ST.nodesL (l ++ r) d = ST.nodesL l d ++ ST.nodesL r d := by
  induction l with
  | nil => simp [ST.nodesL]
  | cons x l ih => simp [ST.nodesL, ih]
theorem take_next {α : Type} (l : List α) (z : α) (k : Nat) (h : k < l.length) : l.take (k + 1) = l.take k ++ [l.getD k z] := by
  rw [List.take_succ_eq_append_getElem h, List.getD_eq_getElem?_getD, List.getElem?_eq_getElem h]; rfl
theorem ET.nodesL_take (l : List ET) (d : Int) (k : Nat) (h : k < l.length) : ET.nodesL (l.take (k + 1)) d = ET.nodesL (l.take k) d ++ ET.nodes (l.getD k default) d := by
  rw [take_next l default k h, ET.nodesL_append]; simp [ET.nodesL]
theorem ST.nodesL_take (l : List ST) (d : Int) (k : Nat) (h : k < l.length) : ST.nodesL (l.take (k + 1)) d = ST.nodesL (l.take k) d ++ ST.nodes (l.getD k default) d := by
  rw [take_next l default k h, ST.nodesL_append]; simp [ST.nodesL]
theorem ET.nodes_eq (e : ET) (d : Int) : e.nodes d = (exprB e.op e.num e.name e.parts.length, d) :: ET.nodesL e.parts (wrap64 (d + 1)) := by cases e; rfl
theorem ST.nodes_eq (e : ST) (d : Int) : e.nodes d = (stmtB e.op e.num e.name e.parts.length e.body.length e.els.length, d) :: (ET.nodesL e.parts (wrap64 (d + 1)) ++ (ST.nodesL e.body (wrap64 (d + 1)) ++ ST.nodesL e.els (wrap64 (d + 1)))) := by cases e; rfl
def FT.nodesL (l : List FT) : List (Bool × Int) := l.flatMap fun f => ST.nodesL f.body 1
theorem FT.nodesL_take (l : List FT) (k : Nat) (h : k < l.length) : FT.nodesL (l.take (k + 1)) = FT.nodesL (l.take k) ++ ST.nodesL (l.getD k default).body 1 := by
  rw [take_next l default k h]; simp [FT.nodesL]
def PT.nodes (p : PT) : List (Bool × Int) := FT.nodesL p.funcs ++ ST.nodesL p.main 1
def depthF (l : List (Bool × Int)) : Int := l.foldl (fun n x => max n x.2) 0
def sizeF (l : List (Bool × Int)) : Int := l.foldl (fun n _ => wrap64 (n + 1)) 0
theorem depthF_snoc (l : List (Bool × Int)) (x : Bool × Int) : depthF (l ++ [x]) = max (depthF l) x.2 := by simp [depthF]
theorem sizeF_snoc (l : List (Bool × Int)) (x : Bool × Int) : sizeF (l ++ [x]) = wrap64 (sizeF l + 1) := by simp [sizeF]
def PT.depth (p : PT) : Int := depthF p.nodes
def PT.size (p : PT) : Int := sizeF p.nodes
/-- Is a function's head right? -/
def FT.headB (f : FT) : Bool := nameB f.name && (decide (f.params.length ≤ 8) && !f.params.any (fun s => !nameB s))
def PT.headsB (p : PT) : Bool := decide (p.funcs.length ≤ 32) && !p.funcs.any (fun f => !f.headB)
/-- What Right tells. -/
def PT.right (p : PT) : Int := if p.headsB && p.nodes.all (·.1) then (if 64 < p.depth then 3 else 0) else 1
mutual
def ET.same : ET → ET → Bool
  | .mk o n s l, .mk o' n' s' l' => (o == o') && ((n == n') && ((s.toList == s'.toList) && ET.sameL l l'))
def ET.sameL : List ET → List ET → Bool
  | [], [] => true
  | a :: l, b :: r => ET.same a b && ET.sameL l r
  | [], _ :: _ => false
  | _ :: _, [] => false
end
mutual
def ST.same : ST → ST → Bool
  | .mk o n s l b e, .mk o' n' s' l' b' e' => (o == o') && ((s.toList == s'.toList) && ((n == n') && (ET.sameL l l' && (ST.sameL b b' && ST.sameL e e'))))
def ST.sameL : List ST → List ST → Bool
  | [], [] => true
  | a :: l, b :: r => ST.same a b && ST.sameL l r
  | [], _ :: _ => false
  | _ :: _, [] => false
end
end Go.Proofs.YthjjcmmonjajhaaDoor
