/-
  DERIVED. GIVEN WITH THE SEED: THE PROGRAM's TIES (one call each: nine closed facts by the kernel) AND EACH ROW's TIE, after the 31st guide's Derived/Test/Toyas{Tie, Card}.lean. No idea stands in it: it is a product of the set-up. Laid BY PROGRAM, IN A SANDBOX (cutbox-door.mjs). By AI agents, Wed Nov 11 2026. No macro, syntax, notation, axiom, sorry.
-/
import Derived.Test.YthfgagljplabpaaDoorRows
import Derived.LaidByTextLater
import Derived.SevenTiedAt
import Derived.LaidSub
import Derived.LaidOnce
namespace Go.Proofs.YthfgagljplabpaaDoor
open Go
set_option maxRecDepth 100000
theorem seatTie1 : Tryd.prog.laidByTextLater [("evenhand/tree.exprs", Rows.laid_evenhand_tree_exprs), ("evenhand/tree.stmts", Rows.laid_evenhand_tree_stmts), ("evenhand/code.sorts", Rows.laid_evenhand_code_sorts), ("evenhand/compile.simple", Rows.laid_evenhand_compile_simple)] [.wider, .data, .data, .mapped] true :=
  Program.laidByTextLater_by_one 95 8 131 (by kernel_rfl) (by kernel_rfl) (by kernel_rfl) (by kernel_rfl) (by kernel_rfl) (by kernel_rfl) (fun _ _ => by kernel_rfl)
theorem noOwnUnsafe : Tryd.pinned.checked.prog.headLifts.contains "ownunsafe" = false := by kernel_rfl
theorem tie : Tryd.prog.laidByTextLater [("evenhand/code.sorts", Rows.laid_evenhand_code_sorts)] [.data] true :=
  Program.laidByTextLater.sub seatTie1 ["evenhand/code.sorts"] (by kernel_rfl) (by kernel_rfl)
theorem verifyDepths_row_tie : Rows.verifyDepthsRow.laidByTextAt .later Tryd.pinned [.data] true :=
  OpenClaim.laidByTextAt_later rfl rfl tie noOwnUnsafe
theorem verifyJumps_row_tie : Rows.verifyJumpsRow.laidByTextAt .later Tryd.pinned [.data] true :=
  OpenClaim.laidByTextAt_later rfl rfl tie noOwnUnsafe
theorem verifyMany_row_tie : Rows.verifyManyRow.laidByTextAt .later Tryd.pinned [.data] true :=
  OpenClaim.laidByTextAt_later rfl rfl tie noOwnUnsafe
theorem tie2 : Tryd.prog.laidByTextLater [("evenhand/tree.exprs", Rows.laid_evenhand_tree_exprs), ("evenhand/tree.stmts", Rows.laid_evenhand_tree_stmts), ("evenhand/code.sorts", Rows.laid_evenhand_code_sorts), ("evenhand/compile.simple", Rows.laid_evenhand_compile_simple)] [.wider, .data, .data, .mapped] true :=
  Program.laidByTextLater.sub seatTie1 ["evenhand/tree.exprs", "evenhand/tree.stmts", "evenhand/code.sorts", "evenhand/compile.simple"] (by kernel_rfl) (by kernel_rfl)
theorem verifyCompiled_row_tie : Rows.verifyCompiledRow.laidByTextAt .later Tryd.pinned [.wider, .data, .data, .mapped] true :=
  OpenClaim.laidByTextAt_later rfl rfl tie2 noOwnUnsafe
theorem verifyDepthsUpto_row_tie : Rows.verifyDepthsUptoRow.laidByTextAt .later Tryd.pinned [.data] true :=
  OpenClaim.laidByTextAt_later rfl rfl tie noOwnUnsafe
theorem verifyJumpsUpto_row_tie : Rows.verifyJumpsUptoRow.laidByTextAt .later Tryd.pinned [.data] true :=
  OpenClaim.laidByTextAt_later rfl rfl tie noOwnUnsafe
theorem verifyManyUpto_row_tie : Rows.verifyManyUptoRow.laidByTextAt .later Tryd.pinned [.data] true :=
  OpenClaim.laidByTextAt_later rfl rfl tie noOwnUnsafe
theorem verifyCompiledUpto_row_tie : Rows.verifyCompiledUptoRow.laidByTextAt .later Tryd.pinned [.wider, .data, .data, .mapped] true :=
  OpenClaim.laidByTextAt_later rfl rfl tie2 noOwnUnsafe
end Go.Proofs.YthfgagljplabpaaDoor
