/-
  DERIVED. GIVEN WITH THE SEED: THE CARDS: each row of YthjjcmmonjajhaaGreatDoorRows.lean that lists a variable, with what it lists TIED to the program's text (the seventh form; the later family's looks); each row that meets fmt, with fmt's text TOLD by the authors' own Lean function (tested against real Go, not proved from fmt's source: count such statements apart). THE CARD IS WHAT COUNTS. Prove the row's statement (the work); the ties are given (YthjjcmmonjajhaaGreatDoorTie.lean); close each card by the builder's one call (the guide's Derived/Test/ToyasCard.lean, 'card_holds'). Laid BY PROGRAM, IN A SANDBOX (cutbox-door.mjs). By AI agents, Wed Nov 11 2026. No macro, syntax, notation, axiom, sorry.
-/
import Derived.Test.YthjjcmmonjajhaaGreatDoorRows
import GoSem.ClaimSeven
namespace Go.Proofs.YthjjcmmonjajhaaGreatDoor
namespace Rows

/-- THE TIED CARD OF 'evenhandlaw09.CompileTells'. -/
def compileTellsCard : Claim7 := { stood := { row := compileTellsRow, standIns := [], harness := (true, "040d704fe8794d0d304cbe141d1c293fc917fa73f0e173801f45882e0621620b"), looks := false }, kinds := [], alts := [], laidByText := true, laidKinds := [.data, .data, .data, .wider, .data, .data, .mapped], laidTests := true, laidLooks := .later }
def CompileTellsCardSaid : Prop := Claim7.holds Tryz.pinned (.plain (OpenSpec.ofChange compileTellsSpec)) compileTellsCard

/-- THE SECOND FORM's CARD OF 'evenhandlaw09.CompileTells'. -/
def compileTellsUptoCard : Claim7 := { stood := { row := compileTellsUptoRow, standIns := [], harness := (true, "040d704fe8794d0d304cbe141d1c293fc917fa73f0e173801f45882e0621620b"), looks := false }, kinds := [], alts := [], laidByText := true, laidKinds := [.data, .data, .data, .wider, .data, .data, .mapped], laidTests := true, laidLooks := .later }
def CompileTellsUptoCardSaid : Prop := Claim7.holds Tryz.pinned (.plain (OpenSpec.upto compileTellsSpec)) compileTellsUptoCard
end Rows
end Go.Proofs.YthjjcmmonjajhaaGreatDoor
