/- The tables of shapes, as they were laid. -/
import Derived.Test.YthjjcmmonjajhaaDoorTreeFits
namespace Go.Proofs.YthjjcmmonjajhaaDoor
open Go.RowKit Go.Sort
set_option linter.unusedVariables false

abbrev Shp := Bool × Int × Int × Int × Bool × Bool
def shapeCells (r : Shp) : List Value := [.bool r.1, .int .i64 r.2.1, .int .i64 r.2.2.1, .int .i64 r.2.2.2.1, .bool r.2.2.2.2.1, .bool r.2.2.2.2.2]

def exprRows : List Shp := [(false, 0, 0, 0, false, false), (false, 0, 9223372036854775807, 0, false, false), (true, 0, 0, 0, false, false), (false, 0, 0, 0, false, false), (true, 0, 0, 1, false, false), (true, 0, 0, -8, false, false), (false, 0, 0, 1, false, false), (false, 0, 0, 1, false, false), (false, 0, 0, 2, false, false), (false, 0, 0, 2, false, false), (false, 0, 0, 2, false, false), (false, 0, 0, 2, false, false), (false, 0, 0, 2, false, false), (false, 0, 0, 2, false, false), (false, 0, 0, 2, false, false), (false, 0, 0, 2, false, false), (false, 0, 0, 2, false, false)]
def exprAll : List Value := exprRows.flatMap shapeCells
def exprRow (i : Nat) : Shp := exprRows.getD i (false, 0, 0, 0, false, false)
def Tabexpr (w : World) : Prop := w.var? Tryd.prog "evenhand/tree.exprs" = some exprAll.toArray
theorem gexpr : Tryd.prog.globalNamed "evenhand/tree.exprs" = some 4 := by kernel_rfl
theorem expr_cells {w : World} (h : Tabexpr w) (i : Nat) (hi : i < 17) :
    w.cell? ⟨4, i * 6, none⟩ = some (.bool (exprRow i).1) ∧ w.cell? ⟨4, i * 6 + 1, none⟩ = some (.int .i64 (exprRow i).2.1) ∧ w.cell? ⟨4, i * 6 + 2, none⟩ = some (.int .i64 (exprRow i).2.2.1) ∧
    w.cell? ⟨4, i * 6 + 3, none⟩ = some (.int .i64 (exprRow i).2.2.2.1) ∧ w.cell? ⟨4, i * 6 + 4, none⟩ = some (.bool (exprRow i).2.2.2.2.1) ∧ w.cell? ⟨4, i * 6 + 5, none⟩ = some (.bool (exprRow i).2.2.2.2.2) := by
  have c : ∀ j, w.cell? ⟨4, j, none⟩ = exprAll[j]? := fun j => by
    have := World.var?_cell gexpr h j
    simpa using this
  rw [c, c, c, c, c, c]
  clear c
  have : i = 0 ∨ i = 1 ∨ i = 2 ∨ i = 3 ∨ i = 4 ∨ i = 5 ∨ i = 6 ∨ i = 7 ∨ i = 8 ∨ i = 9 ∨ i = 10 ∨ i = 11 ∨ i = 12 ∨ i = 13 ∨ i = 14 ∨ i = 15 ∨ i = 16 := by omega
  rcases this with rfl | rfl | rfl | rfl | rfl | rfl | rfl | rfl | rfl | rfl | rfl | rfl | rfl | rfl | rfl | rfl | rfl <;> exact ⟨rfl, rfl, rfl, rfl, rfl, rfl⟩
theorem Tabexpr.below {w w' : World} (h : Tabexpr w) (hb : Below w.heap.size w w') : Tabexpr w' := Joins.var_stays gexpr h hb (Nat.le_refl _)

def stmtRows : List Shp := [(false, 0, 0, 0, false, false), (true, 0, 0, 1, false, false), (true, 0, 0, 2, false, false), (true, 1, 4096, 0, false, false), (true, 0, 0, 0, false, false), (false, 0, 0, 1, false, false), (false, 0, 0, 1, false, false), (false, 0, 0, 1, true, true), (false, 0, 0, 1, true, false), (false, 0, 0, 1, false, false)]
def stmtAll : List Value := stmtRows.flatMap shapeCells
def stmtRow (i : Nat) : Shp := stmtRows.getD i (false, 0, 0, 0, false, false)
def Tabstmt (w : World) : Prop := w.var? Tryd.prog "evenhand/tree.stmts" = some stmtAll.toArray
theorem gstmt : Tryd.prog.globalNamed "evenhand/tree.stmts" = some 2 := by kernel_rfl
theorem stmt_cells {w : World} (h : Tabstmt w) (i : Nat) (hi : i < 10) :
    w.cell? ⟨2, i * 6, none⟩ = some (.bool (stmtRow i).1) ∧ w.cell? ⟨2, i * 6 + 1, none⟩ = some (.int .i64 (stmtRow i).2.1) ∧ w.cell? ⟨2, i * 6 + 2, none⟩ = some (.int .i64 (stmtRow i).2.2.1) ∧
    w.cell? ⟨2, i * 6 + 3, none⟩ = some (.int .i64 (stmtRow i).2.2.2.1) ∧ w.cell? ⟨2, i * 6 + 4, none⟩ = some (.bool (stmtRow i).2.2.2.2.1) ∧ w.cell? ⟨2, i * 6 + 5, none⟩ = some (.bool (stmtRow i).2.2.2.2.2) := by
  have c : ∀ j, w.cell? ⟨2, j, none⟩ = stmtAll[j]? := fun j => by
    have := World.var?_cell gstmt h j
    simpa using this
  rw [c, c, c, c, c, c]
  clear c
  have : i = 0 ∨ i = 1 ∨ i = 2 ∨ i = 3 ∨ i = 4 ∨ i = 5 ∨ i = 6 ∨ i = 7 ∨ i = 8 ∨ i = 9 := by omega
  rcases this with rfl | rfl | rfl | rfl | rfl | rfl | rfl | rfl | rfl | rfl <;> exact ⟨rfl, rfl, rfl, rfl, rfl, rfl⟩
theorem Tabstmt.below {w w' : World} (h : Tabstmt w) (hb : Below w.heap.size w w') : Tabstmt w' := Joins.var_stays gstmt h hb (Nat.le_refl _)
def Tab (w : World) : Prop := Tabexpr w ∧ Tabstmt w
theorem Tab.below {w w' : World} (h : Tab w) (hb : Below w.heap.size w w') : Tab w' := ⟨h.1.below hb, h.2.below hb⟩
theorem Tab.at {w0 w : World} (ht : Hid (Tab w0)) (h : Hid (Below w0.heap.size w0 w)) : Tab w := ht.out.below h.out
end Go.Proofs.YthjjcmmonjajhaaDoor
