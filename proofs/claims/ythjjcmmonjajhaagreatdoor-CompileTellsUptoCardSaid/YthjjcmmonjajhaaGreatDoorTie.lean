/-
  DERIVED. GIVEN WITH THE SEED: THE PROGRAM's TIES (one call each: nine closed facts by the kernel) AND EACH ROW's TIE, after the 31st guide's Derived/Test/Toyas{Tie, Card}.lean. No idea stands in it: it is a product of the set-up. Laid BY PROGRAM, IN A SANDBOX (cutbox-door.mjs). By AI agents, Wed Nov 11 2026. No macro, syntax, notation, axiom, sorry.
-/
import Derived.Test.YthjjcmmonjajhaaGreatDoorRows
import Derived.LaidByTextLater
import Derived.SevenTiedAt
import Derived.LaidSub
import Derived.LaidOnce
namespace Go.Proofs.YthjjcmmonjajhaaGreatDoor
open Go
set_option maxRecDepth 100000
theorem seatTie1 : Tryz.prog.laidByTextLater [("math/bits.deBruijn32tab", Rows.laid_math_bits_deBruijn32tab), ("math/bits.deBruijn64tab", Rows.laid_math_bits_deBruijn64tab), ("internal/strconv.uint64pow10", Rows.laid_internal_strconv_uint64pow10), ("evenhand/tree.exprs", Rows.laid_evenhand_tree_exprs), ("evenhand/tree.stmts", Rows.laid_evenhand_tree_stmts), ("evenhand/code.sorts", Rows.laid_evenhand_code_sorts), ("evenhand/compile.simple", Rows.laid_evenhand_compile_simple)] [.data, .data, .data, .wider, .data, .data, .mapped] true :=
  Program.laidByTextLater_by_one 110 8 131 (by kernel_rfl) (by kernel_rfl) (by kernel_rfl) (by kernel_rfl) (by kernel_rfl) (by kernel_rfl) (fun _ _ => by kernel_rfl)
theorem noOwnUnsafe : Tryz.pinned.checked.prog.headLifts.contains "ownunsafe" = false := by kernel_rfl
theorem tie : Tryz.prog.laidByTextLater [("math/bits.deBruijn32tab", Rows.laid_math_bits_deBruijn32tab), ("math/bits.deBruijn64tab", Rows.laid_math_bits_deBruijn64tab), ("internal/strconv.uint64pow10", Rows.laid_internal_strconv_uint64pow10), ("evenhand/tree.exprs", Rows.laid_evenhand_tree_exprs), ("evenhand/tree.stmts", Rows.laid_evenhand_tree_stmts), ("evenhand/code.sorts", Rows.laid_evenhand_code_sorts), ("evenhand/compile.simple", Rows.laid_evenhand_compile_simple)] [.data, .data, .data, .wider, .data, .data, .mapped] true :=
  Program.laidByTextLater.sub seatTie1 ["math/bits.deBruijn32tab", "math/bits.deBruijn64tab", "internal/strconv.uint64pow10", "evenhand/tree.exprs", "evenhand/tree.stmts", "evenhand/code.sorts", "evenhand/compile.simple"] (by kernel_rfl) (by kernel_rfl)
theorem compileTells_row_tie : Rows.compileTellsRow.laidByTextAt .later Tryz.pinned [.data, .data, .data, .wider, .data, .data, .mapped] true :=
  OpenClaim.laidByTextAt_later rfl rfl tie noOwnUnsafe
theorem compileTellsUpto_row_tie : Rows.compileTellsUptoRow.laidByTextAt .later Tryz.pinned [.data, .data, .data, .wider, .data, .data, .mapped] true :=
  OpenClaim.laidByTextAt_later rfl rfl tie noOwnUnsafe
end Go.Proofs.YthjjcmmonjajhaaGreatDoor
