/-
  DERIVED. GIVEN WITH THE SEED: THE CARDS: each row of YtplckmpamekloaaDoorRows.lean that lists a variable, with what it lists TIED to the program's text (the seventh form; the later family's looks); each row that meets fmt, with fmt's text TOLD by the authors' own Lean function (tested against real Go, not proved from fmt's source: count such statements apart). THE CARD IS WHAT COUNTS. Prove the row's statement (the work); the ties are given (YtplckmpamekloaaDoorTie.lean); close each card by the builder's one call (the guide's Derived/Test/ToyasCard.lean, 'card_holds'). Laid BY PROGRAM, IN A SANDBOX (cutbox-door.mjs). By AI agents, Wed Nov 11 2026. No macro, syntax, notation, axiom, sorry.
-/
import Derived.Test.YtplckmpamekloaaDoorRows
import GoSem.ClaimSeven
namespace Go.Proofs.YtplckmpamekloaaDoor
namespace Rows

/-- THE TIED CARD OF 'evenhandlaw03.TreeTells'. -/
def treeTellsCard : Claim7 := { stood := { row := treeTellsRow, standIns := [], harness := (true, "91dec39d32457ea1c0aeb50f758a7af64eea45c6efbe860911989e19ae67e7b6"), looks := false }, kinds := [], alts := [], laidByText := true, laidKinds := [.wider, .data], laidTests := true, laidLooks := .later }
def TreeTellsCardSaid : Prop := Claim7.holds Tryd.pinned (.plain (OpenSpec.ofChange treeTellsSpec)) treeTellsCard

/-- THE TIED CARD OF 'evenhandlaw03.TreeParts'. -/
def treePartsCard : Claim7 := { stood := { row := treePartsRow, standIns := [], harness := (true, "91dec39d32457ea1c0aeb50f758a7af64eea45c6efbe860911989e19ae67e7b6"), looks := false }, kinds := [], alts := [], laidByText := true, laidKinds := [.wider, .data], laidTests := true, laidLooks := .later }
def TreePartsCardSaid : Prop := Claim7.holds Tryd.pinned (.plain (OpenSpec.ofChange treePartsSpec)) treePartsCard

/-- THE TIED CARD OF 'evenhandlaw03.TreeDeeper'. -/
def treeDeeperCard : Claim7 := { stood := { row := treeDeeperRow, standIns := [], harness := (true, "91dec39d32457ea1c0aeb50f758a7af64eea45c6efbe860911989e19ae67e7b6"), looks := false }, kinds := [], alts := [], laidByText := true, laidKinds := [.wider, .data], laidTests := true, laidLooks := .later }
def TreeDeeperCardSaid : Prop := Claim7.holds Tryd.pinned (.plain (OpenSpec.ofChange treeDeeperSpec)) treeDeeperCard

/-- THE TIED CARD OF 'evenhandlaw03.TreeEqual'. -/
def treeEqualCard : Claim7 := { stood := { row := treeEqualRow, standIns := [], harness := (true, "91dec39d32457ea1c0aeb50f758a7af64eea45c6efbe860911989e19ae67e7b6"), looks := false }, kinds := [], alts := [], laidByText := true, laidKinds := [.wider, .data], laidTests := true, laidLooks := .later }
def TreeEqualCardSaid : Prop := Claim7.holds Tryd.pinned (.plain (OpenSpec.ofChange treeEqualSpec)) treeEqualCard

/-- THE TIED CARD OF 'evenhandlaw03.TreeNames'. -/
def treeNamesCard : Claim7 := { stood := { row := treeNamesRow, standIns := [], harness := (true, "91dec39d32457ea1c0aeb50f758a7af64eea45c6efbe860911989e19ae67e7b6"), looks := false }, kinds := [], alts := [], laidByText := true, laidKinds := [.wider, .data], laidTests := true, laidLooks := .later }
def TreeNamesCardSaid : Prop := Claim7.holds Tryd.pinned (.plain (OpenSpec.ofChange treeNamesSpec)) treeNamesCard

/-- THE TIED CARD OF 'evenhandlaw03.TreeOps'. -/
def treeOpsCard : Claim7 := { stood := { row := treeOpsRow, standIns := [], harness := (true, "91dec39d32457ea1c0aeb50f758a7af64eea45c6efbe860911989e19ae67e7b6"), looks := false }, kinds := [], alts := [], laidByText := true, laidKinds := [.wider, .data], laidTests := true, laidLooks := .later }
def TreeOpsCardSaid : Prop := Claim7.holds Tryd.pinned (.plain (OpenSpec.ofChange treeOpsSpec)) treeOpsCard

/-- THE TIED CARD OF 'evenhandlaw03.TreeLimits'. -/
def treeLimitsCard : Claim7 := { stood := { row := treeLimitsRow, standIns := [], harness := (true, "91dec39d32457ea1c0aeb50f758a7af64eea45c6efbe860911989e19ae67e7b6"), looks := false }, kinds := [], alts := [], laidByText := true, laidKinds := [.wider, .data], laidTests := true, laidLooks := .later }
def TreeLimitsCardSaid : Prop := Claim7.holds Tryd.pinned (.plain (OpenSpec.ofChange treeLimitsSpec)) treeLimitsCard

/-- THE TIED CARD OF 'evenhandlaw03.TreeSame'. -/
def treeSameCard : Claim7 := { stood := { row := treeSameRow, standIns := [], harness := (true, "91dec39d32457ea1c0aeb50f758a7af64eea45c6efbe860911989e19ae67e7b6"), looks := false }, kinds := [], alts := [], laidByText := true, laidKinds := [.wider, .data], laidTests := true, laidLooks := .later }
def TreeSameCardSaid : Prop := Claim7.holds Tryd.pinned (.plain (OpenSpec.ofChange treeSameSpec)) treeSameCard

/-- THE SECOND FORM's CARD OF 'evenhandlaw03.TreeTells'. -/
def treeTellsUptoCard : Claim7 := { stood := { row := treeTellsUptoRow, standIns := [], harness := (true, "91dec39d32457ea1c0aeb50f758a7af64eea45c6efbe860911989e19ae67e7b6"), looks := false }, kinds := [], alts := [], laidByText := true, laidKinds := [.wider, .data], laidTests := true, laidLooks := .later }
def TreeTellsUptoCardSaid : Prop := Claim7.holds Tryd.pinned (.plain (OpenSpec.upto treeTellsSpec)) treeTellsUptoCard

/-- THE SECOND FORM's CARD OF 'evenhandlaw03.TreeParts'. -/
def treePartsUptoCard : Claim7 := { stood := { row := treePartsUptoRow, standIns := [], harness := (true, "91dec39d32457ea1c0aeb50f758a7af64eea45c6efbe860911989e19ae67e7b6"), looks := false }, kinds := [], alts := [], laidByText := true, laidKinds := [.wider, .data], laidTests := true, laidLooks := .later }
def TreePartsUptoCardSaid : Prop := Claim7.holds Tryd.pinned (.plain (OpenSpec.upto treePartsSpec)) treePartsUptoCard

/-- THE SECOND FORM's CARD OF 'evenhandlaw03.TreeDeeper'. -/
def treeDeeperUptoCard : Claim7 := { stood := { row := treeDeeperUptoRow, standIns := [], harness := (true, "91dec39d32457ea1c0aeb50f758a7af64eea45c6efbe860911989e19ae67e7b6"), looks := false }, kinds := [], alts := [], laidByText := true, laidKinds := [.wider, .data], laidTests := true, laidLooks := .later }
def TreeDeeperUptoCardSaid : Prop := Claim7.holds Tryd.pinned (.plain (OpenSpec.upto treeDeeperSpec)) treeDeeperUptoCard

/-- THE SECOND FORM's CARD OF 'evenhandlaw03.TreeEqual'. -/
def treeEqualUptoCard : Claim7 := { stood := { row := treeEqualUptoRow, standIns := [], harness := (true, "91dec39d32457ea1c0aeb50f758a7af64eea45c6efbe860911989e19ae67e7b6"), looks := false }, kinds := [], alts := [], laidByText := true, laidKinds := [.wider, .data], laidTests := true, laidLooks := .later }
def TreeEqualUptoCardSaid : Prop := Claim7.holds Tryd.pinned (.plain (OpenSpec.upto treeEqualSpec)) treeEqualUptoCard

/-- THE SECOND FORM's CARD OF 'evenhandlaw03.TreeNames'. -/
def treeNamesUptoCard : Claim7 := { stood := { row := treeNamesUptoRow, standIns := [], harness := (true, "91dec39d32457ea1c0aeb50f758a7af64eea45c6efbe860911989e19ae67e7b6"), looks := false }, kinds := [], alts := [], laidByText := true, laidKinds := [.wider, .data], laidTests := true, laidLooks := .later }
def TreeNamesUptoCardSaid : Prop := Claim7.holds Tryd.pinned (.plain (OpenSpec.upto treeNamesSpec)) treeNamesUptoCard

/-- THE SECOND FORM's CARD OF 'evenhandlaw03.TreeOps'. -/
def treeOpsUptoCard : Claim7 := { stood := { row := treeOpsUptoRow, standIns := [], harness := (true, "91dec39d32457ea1c0aeb50f758a7af64eea45c6efbe860911989e19ae67e7b6"), looks := false }, kinds := [], alts := [], laidByText := true, laidKinds := [.wider, .data], laidTests := true, laidLooks := .later }
def TreeOpsUptoCardSaid : Prop := Claim7.holds Tryd.pinned (.plain (OpenSpec.upto treeOpsSpec)) treeOpsUptoCard

/-- THE SECOND FORM's CARD OF 'evenhandlaw03.TreeLimits'. -/
def treeLimitsUptoCard : Claim7 := { stood := { row := treeLimitsUptoRow, standIns := [], harness := (true, "91dec39d32457ea1c0aeb50f758a7af64eea45c6efbe860911989e19ae67e7b6"), looks := false }, kinds := [], alts := [], laidByText := true, laidKinds := [.wider, .data], laidTests := true, laidLooks := .later }
def TreeLimitsUptoCardSaid : Prop := Claim7.holds Tryd.pinned (.plain (OpenSpec.upto treeLimitsSpec)) treeLimitsUptoCard

/-- THE SECOND FORM's CARD OF 'evenhandlaw03.TreeSame'. -/
def treeSameUptoCard : Claim7 := { stood := { row := treeSameUptoRow, standIns := [], harness := (true, "91dec39d32457ea1c0aeb50f758a7af64eea45c6efbe860911989e19ae67e7b6"), looks := false }, kinds := [], alts := [], laidByText := true, laidKinds := [.wider, .data], laidTests := true, laidLooks := .later }
def TreeSameUptoCardSaid : Prop := Claim7.holds Tryd.pinned (.plain (OpenSpec.upto treeSameSpec)) treeSameUptoCard
end Rows
end Go.Proofs.YtplckmpamekloaaDoor
