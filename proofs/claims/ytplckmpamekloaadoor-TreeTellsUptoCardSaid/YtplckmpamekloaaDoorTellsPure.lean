/- What the document's Deep, Deeper, Depth, many, more, Size compute, as plain functions. -/
import Derived.Test.YtplckmpamekloaaDoorTreePure
namespace Go.Proofs.YtplckmpamekloaaDoor
open Go.RowKit Go.Sort
set_option linter.unusedVariables false

mutual
def ET.rdeep : ET → Int
  | .mk _ _ _ l => ET.rdeepL l 0
def ET.rdeepL : List ET → Int → Int
  | [], n => n
  | e :: r, n => ET.rdeepL r (max n (wrap64 (1 + ET.rdeep e)))
end
mutual
def ST.rdeep : ST → Int
  | .mk _ _ _ l b e => max (ET.rdeepL l 0) (max (ST.rdeepL b 0) (ST.rdeepL e 0))
def ST.rdeepL : List ST → Int → Int
  | [], n => n
  | e :: r, n => ST.rdeepL r (max n (wrap64 (1 + ST.rdeep e)))
end
mutual
def ET.rmany : ET → Int
  | .mk _ _ _ l => ET.rmanyL l l.length
def ET.rmanyL : List ET → Int → Int
  | [], n => n
  | e :: r, n => ET.rmanyL r (wrap64 (n + ET.rmany e))
end
mutual
def ST.rmany : ST → Int → Int
  | .mk _ _ _ l b e, n => wrap64 (wrap64 (wrap64 (n + ET.rmanyL l l.length) + ST.rmanyL b b.length) + ST.rmanyL e e.length)
def ST.rmanyL : List ST → Int → Int
  | [], n => n
  | e :: r, n => ST.rmanyL r (ST.rmany e n)
end
theorem ET.rdeepL_append (l r : List ET) : ∀ n, ET.rdeepL (l ++ r) n = ET.rdeepL r (ET.rdeepL l n) := by
  induction l with
  | nil => intro n; rfl
  | cons e l ih => intro n; simp only [List.cons_append, ET.rdeepL]; exact ih _
theorem ST.rdeepL_append (l r : List ST) : ∀ n, ST.rdeepL (l ++ r) n = ST.rdeepL r (ST.rdeepL l n) := by
  induction l with
  | nil => intro n; rfl
  | cons e l ih => intro n; simp only [List.cons_append, ST.rdeepL]; exact ih _
theorem ET.rmanyL_append (l r : List ET) : ∀ n, ET.rmanyL (l ++ r) n = ET.rmanyL r (ET.rmanyL l n) := by
  induction l with
  | nil => intro n; rfl
  | cons e l ih => intro n; simp only [List.cons_append, ET.rmanyL]; exact ih _
theorem ST.rmanyL_append (l r : List ST) : ∀ n, ST.rmanyL (l ++ r) n = ST.rmanyL r (ST.rmanyL l n) := by
  induction l with
  | nil => intro n; rfl
  | cons e l ih => intro n; simp only [List.cons_append, ST.rmanyL]; exact ih _
theorem ET.rdeepL_take (l : List ET) (n : Int) (k : Nat) (h : k < l.length) : ET.rdeepL (l.take (k + 1)) n = max (ET.rdeepL (l.take k) n) (wrap64 (1 + ET.rdeepL (l.getD k default).parts 0)) := by
  rw [take_next l default k h, ET.rdeepL_append]
  cases l.getD k default; rfl
theorem ST.rdeepL_take (l : List ST) (n : Int) (k : Nat) (h : k < l.length) : ST.rdeepL (l.take (k + 1)) n = max (ST.rdeepL (l.take k) n) (wrap64 (1 + max (ET.rdeepL (l.getD k default).parts 0) (max (ST.rdeepL (l.getD k default).body 0) (ST.rdeepL (l.getD k default).els 0)))) := by
  rw [take_next l default k h, ST.rdeepL_append]
  cases l.getD k default; rfl
theorem ET.rmanyL_take (l : List ET) (n : Int) (k : Nat) (h : k < l.length) : ET.rmanyL (l.take (k + 1)) n = wrap64 (ET.rmanyL (l.take k) n + ET.rmanyL (l.getD k default).parts (l.getD k default).parts.length) := by
  rw [take_next l default k h, ET.rmanyL_append]
  cases l.getD k default; rfl
theorem ST.rmanyL_take (l : List ST) (n : Int) (k : Nat) (h : k < l.length) : ST.rmanyL (l.take (k + 1)) n = wrap64 (wrap64 (wrap64 (ST.rmanyL (l.take k) n + ET.rmanyL (l.getD k default).parts (l.getD k default).parts.length) + ST.rmanyL (l.getD k default).body (l.getD k default).body.length) + ST.rmanyL (l.getD k default).els (l.getD k default).els.length) := by
  rw [take_next l default k h, ST.rmanyL_append]
  cases l.getD k default; rfl
end Go.Proofs.YtplckmpamekloaaDoor
