/-
  DERIVED. GIVEN WITH THE SEED: THE PROGRAM's TIES (one call each: nine closed facts by the kernel) AND EACH ROW's TIE, after the 31st guide's Derived/Test/Toyas{Tie, Card}.lean. No idea stands in it: it is a product of the set-up. Laid BY PROGRAM, IN A SANDBOX (cutbox-door.mjs). By AI agents, Wed Nov 11 2026. No macro, syntax, notation, axiom, sorry.
-/
import Derived.Test.YtplckmpamekloaaDoorRows
import Derived.LaidByTextLater
import Derived.SevenTiedAt
import Derived.LaidSub
import Derived.LaidOnce
namespace Go.Proofs.YtplckmpamekloaaDoor
open Go
set_option maxRecDepth 100000
theorem seatTie1 : Tryd.prog.laidByTextLater [("evenhand/tree.exprs", Rows.laid_evenhand_tree_exprs), ("evenhand/tree.stmts", Rows.laid_evenhand_tree_stmts)] [.wider, .data] true :=
  Program.laidByTextLater_by_one 44 8 103 (by kernel_rfl) (by kernel_rfl) (by kernel_rfl) (by kernel_rfl) (by kernel_rfl) (by kernel_rfl) (fun _ _ => by kernel_rfl)
theorem noOwnUnsafe : Tryd.pinned.checked.prog.headLifts.contains "ownunsafe" = false := by kernel_rfl
theorem tie : Tryd.prog.laidByTextLater [("evenhand/tree.exprs", Rows.laid_evenhand_tree_exprs), ("evenhand/tree.stmts", Rows.laid_evenhand_tree_stmts)] [.wider, .data] true :=
  Program.laidByTextLater.sub seatTie1 ["evenhand/tree.exprs", "evenhand/tree.stmts"] (by kernel_rfl) (by kernel_rfl)
theorem treeTells_row_tie : Rows.treeTellsRow.laidByTextAt .later Tryd.pinned [.wider, .data] true :=
  OpenClaim.laidByTextAt_later rfl rfl tie noOwnUnsafe
theorem treeParts_row_tie : Rows.treePartsRow.laidByTextAt .later Tryd.pinned [.wider, .data] true :=
  OpenClaim.laidByTextAt_later rfl rfl tie noOwnUnsafe
theorem treeDeeper_row_tie : Rows.treeDeeperRow.laidByTextAt .later Tryd.pinned [.wider, .data] true :=
  OpenClaim.laidByTextAt_later rfl rfl tie noOwnUnsafe
theorem treeEqual_row_tie : Rows.treeEqualRow.laidByTextAt .later Tryd.pinned [.wider, .data] true :=
  OpenClaim.laidByTextAt_later rfl rfl tie noOwnUnsafe
theorem treeNames_row_tie : Rows.treeNamesRow.laidByTextAt .later Tryd.pinned [.wider, .data] true :=
  OpenClaim.laidByTextAt_later rfl rfl tie noOwnUnsafe
theorem treeOps_row_tie : Rows.treeOpsRow.laidByTextAt .later Tryd.pinned [.wider, .data] true :=
  OpenClaim.laidByTextAt_later rfl rfl tie noOwnUnsafe
theorem treeLimits_row_tie : Rows.treeLimitsRow.laidByTextAt .later Tryd.pinned [.wider, .data] true :=
  OpenClaim.laidByTextAt_later rfl rfl tie noOwnUnsafe
theorem treeSame_row_tie : Rows.treeSameRow.laidByTextAt .later Tryd.pinned [.wider, .data] true :=
  OpenClaim.laidByTextAt_later rfl rfl tie noOwnUnsafe
theorem treeTellsUpto_row_tie : Rows.treeTellsUptoRow.laidByTextAt .later Tryd.pinned [.wider, .data] true :=
  OpenClaim.laidByTextAt_later rfl rfl tie noOwnUnsafe
theorem treePartsUpto_row_tie : Rows.treePartsUptoRow.laidByTextAt .later Tryd.pinned [.wider, .data] true :=
  OpenClaim.laidByTextAt_later rfl rfl tie noOwnUnsafe
theorem treeDeeperUpto_row_tie : Rows.treeDeeperUptoRow.laidByTextAt .later Tryd.pinned [.wider, .data] true :=
  OpenClaim.laidByTextAt_later rfl rfl tie noOwnUnsafe
theorem treeEqualUpto_row_tie : Rows.treeEqualUptoRow.laidByTextAt .later Tryd.pinned [.wider, .data] true :=
  OpenClaim.laidByTextAt_later rfl rfl tie noOwnUnsafe
theorem treeNamesUpto_row_tie : Rows.treeNamesUptoRow.laidByTextAt .later Tryd.pinned [.wider, .data] true :=
  OpenClaim.laidByTextAt_later rfl rfl tie noOwnUnsafe
theorem treeOpsUpto_row_tie : Rows.treeOpsUptoRow.laidByTextAt .later Tryd.pinned [.wider, .data] true :=
  OpenClaim.laidByTextAt_later rfl rfl tie noOwnUnsafe
theorem treeLimitsUpto_row_tie : Rows.treeLimitsUptoRow.laidByTextAt .later Tryd.pinned [.wider, .data] true :=
  OpenClaim.laidByTextAt_later rfl rfl tie noOwnUnsafe
theorem treeSameUpto_row_tie : Rows.treeSameUptoRow.laidByTextAt .later Tryd.pinned [.wider, .data] true :=
  OpenClaim.laidByTextAt_later rfl rfl tie noOwnUnsafe
end Go.Proofs.YtplckmpamekloaaDoor
