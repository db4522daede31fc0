/-
  DERIVED. GIVEN WITH THE SEED: THE CARDS: each row of YtohkafjfolojcaaDoorRows.lean that lists a variable, with what it lists TIED to the program's text (the seventh form; the later family's looks); each row that meets fmt, with fmt's text TOLD by the authors' own Lean function (tested against real Go, not proved from fmt's source: count such statements apart). THE CARD IS WHAT COUNTS. Prove the row's statement (the work); the ties are given (YtohkafjfolojcaaDoorTie.lean); close each card by the builder's one call (the guide's Derived/Test/ToyasCard.lean, 'card_holds'). Laid BY PROGRAM, IN A SANDBOX (cutbox-door.mjs). By AI agents, Wed Nov 11 2026. No macro, syntax, notation, axiom, sorry.
-/
import Derived.Test.YtohkafjfolojcaaDoorRows
import GoSem.ClaimSeven
namespace Go.Proofs.YtohkafjfolojcaaDoor
namespace Rows

/-- THE TIED CARD OF 'evenhandlaw01.WrapDoes'. -/
def wrapDoesCard : Claim7 := { stood := { row := wrapDoesRow, standIns := [], harness := (true, "262b034b74fe4307db510f9f85a5ffad8f32cca601caf6bfdc0d65bfbfbbb596"), looks := false }, kinds := [], alts := [], laidByText := true, laidKinds := [.data, .data, .data], laidTests := true, laidLooks := .later }
def WrapDoesCardSaid : Prop := Claim7.holds Tryd.pinned (.plain (OpenSpec.ofChange wrapDoesSpec)) wrapDoesCard

/-- THE TIED CARD OF 'evenhandlaw01.WrapTexts'. -/
def wrapTextsCard : Claim7 := { stood := { row := wrapTextsRow, standIns := [], harness := (true, "262b034b74fe4307db510f9f85a5ffad8f32cca601caf6bfdc0d65bfbfbbb596"), looks := false }, kinds := [], alts := [], laidByText := true, laidKinds := [.data, .data, .data], laidTests := true, laidLooks := .later }
def WrapTextsCardSaid : Prop := Claim7.holds Tryd.pinned (.plain (OpenSpec.ofChange wrapTextsSpec)) wrapTextsCard

/-- THE TIED CARD OF 'evenhandlaw01.WrapRing'. -/
def wrapRingCard : Claim7 := { stood := { row := wrapRingRow, standIns := [], harness := (true, "262b034b74fe4307db510f9f85a5ffad8f32cca601caf6bfdc0d65bfbfbbb596"), looks := false }, kinds := [], alts := [], laidByText := true, laidKinds := [.data, .data, .data], laidTests := true, laidLooks := .later }
def WrapRingCardSaid : Prop := Claim7.holds Tryd.pinned (.plain (OpenSpec.ofChange wrapRingSpec)) wrapRingCard

/-- THE TIED CARD OF 'evenhandlaw01.WrapParts'. -/
def wrapPartsCard : Claim7 := { stood := { row := wrapPartsRow, standIns := [], harness := (true, "262b034b74fe4307db510f9f85a5ffad8f32cca601caf6bfdc0d65bfbfbbb596"), looks := false }, kinds := [], alts := [], laidByText := true, laidKinds := [.data, .data, .data], laidTests := true, laidLooks := .later }
def WrapPartsCardSaid : Prop := Claim7.holds Tryd.pinned (.plain (OpenSpec.ofChange wrapPartsSpec)) wrapPartsCard

/-- THE TIED CARD OF 'evenhandlaw01.WrapBits'. -/
def wrapBitsCard : Claim7 := { stood := { row := wrapBitsRow, standIns := [], harness := (true, "262b034b74fe4307db510f9f85a5ffad8f32cca601caf6bfdc0d65bfbfbbb596"), looks := false }, kinds := [], alts := [], laidByText := true, laidKinds := [.data, .data, .data], laidTests := true, laidLooks := .later }
def WrapBitsCardSaid : Prop := Claim7.holds Tryd.pinned (.plain (OpenSpec.ofChange wrapBitsSpec)) wrapBitsCard

/-- THE TIED CARD OF 'evenhandlaw01.WrapOrder'. -/
def wrapOrderCard : Claim7 := { stood := { row := wrapOrderRow, standIns := [], harness := (true, "262b034b74fe4307db510f9f85a5ffad8f32cca601caf6bfdc0d65bfbfbbb596"), looks := false }, kinds := [], alts := [], laidByText := true, laidKinds := [.data, .data, .data], laidTests := true, laidLooks := .later }
def WrapOrderCardSaid : Prop := Claim7.holds Tryd.pinned (.plain (OpenSpec.ofChange wrapOrderSpec)) wrapOrderCard

/-- THE TIED CARD OF 'evenhandlaw01.WrapDigits'. -/
def wrapDigitsCard : Claim7 := { stood := { row := wrapDigitsRow, standIns := [], harness := (true, "262b034b74fe4307db510f9f85a5ffad8f32cca601caf6bfdc0d65bfbfbbb596"), looks := false }, kinds := [], alts := [], laidByText := true, laidKinds := [.data, .data, .data], laidTests := true, laidLooks := .later }
def WrapDigitsCardSaid : Prop := Claim7.holds Tryd.pinned (.plain (OpenSpec.ofChange wrapDigitsSpec)) wrapDigitsCard

/-- THE TIED CARD OF 'evenhandlaw01.WrapSigns'. -/
def wrapSignsCard : Claim7 := { stood := { row := wrapSignsRow, standIns := [], harness := (true, "262b034b74fe4307db510f9f85a5ffad8f32cca601caf6bfdc0d65bfbfbbb596"), looks := false }, kinds := [], alts := [], laidByText := true, laidKinds := [.data, .data, .data], laidTests := true, laidLooks := .later }
def WrapSignsCardSaid : Prop := Claim7.holds Tryd.pinned (.plain (OpenSpec.ofChange wrapSignsSpec)) wrapSignsCard

/-- THE TIED CARD OF 'evenhandlaw01.WrapOps'. -/
def wrapOpsCard : Claim7 := { stood := { row := wrapOpsRow, standIns := [], harness := (true, "262b034b74fe4307db510f9f85a5ffad8f32cca601caf6bfdc0d65bfbfbbb596"), looks := false }, kinds := [], alts := [], laidByText := true, laidKinds := [.data, .data, .data], laidTests := true, laidLooks := .later }
def WrapOpsCardSaid : Prop := Claim7.holds Tryd.pinned (.plain (OpenSpec.ofChange wrapOpsSpec)) wrapOpsCard

/-- THE SECOND FORM's CARD OF 'evenhandlaw01.WrapDoes'. -/
def wrapDoesUptoCard : Claim7 := { stood := { row := wrapDoesUptoRow, standIns := [], harness := (true, "262b034b74fe4307db510f9f85a5ffad8f32cca601caf6bfdc0d65bfbfbbb596"), looks := false }, kinds := [], alts := [], laidByText := true, laidKinds := [.data, .data, .data], laidTests := true, laidLooks := .later }
def WrapDoesUptoCardSaid : Prop := Claim7.holds Tryd.pinned (.plain (OpenSpec.upto wrapDoesSpec)) wrapDoesUptoCard

/-- THE SECOND FORM's CARD OF 'evenhandlaw01.WrapTexts'. -/
def wrapTextsUptoCard : Claim7 := { stood := { row := wrapTextsUptoRow, standIns := [], harness := (true, "262b034b74fe4307db510f9f85a5ffad8f32cca601caf6bfdc0d65bfbfbbb596"), looks := false }, kinds := [], alts := [], laidByText := true, laidKinds := [.data, .data, .data], laidTests := true, laidLooks := .later }
def WrapTextsUptoCardSaid : Prop := Claim7.holds Tryd.pinned (.plain (OpenSpec.upto wrapTextsSpec)) wrapTextsUptoCard

/-- THE SECOND FORM's CARD OF 'evenhandlaw01.WrapRing'. -/
def wrapRingUptoCard : Claim7 := { stood := { row := wrapRingUptoRow, standIns := [], harness := (true, "262b034b74fe4307db510f9f85a5ffad8f32cca601caf6bfdc0d65bfbfbbb596"), looks := false }, kinds := [], alts := [], laidByText := true, laidKinds := [.data, .data, .data], laidTests := true, laidLooks := .later }
def WrapRingUptoCardSaid : Prop := Claim7.holds Tryd.pinned (.plain (OpenSpec.upto wrapRingSpec)) wrapRingUptoCard

/-- THE SECOND FORM's CARD OF 'evenhandlaw01.WrapParts'. -/
def wrapPartsUptoCard : Claim7 := { stood := { row := wrapPartsUptoRow, standIns := [], harness := (true, "262b034b74fe4307db510f9f85a5ffad8f32cca601caf6bfdc0d65bfbfbbb596"), looks := false }, kinds := [], alts := [], laidByText := true, laidKinds := [.data, .data, .data], laidTests := true, laidLooks := .later }
def WrapPartsUptoCardSaid : Prop := Claim7.holds Tryd.pinned (.plain (OpenSpec.upto wrapPartsSpec)) wrapPartsUptoCard

/-- THE SECOND FORM's CARD OF 'evenhandlaw01.WrapBits'. -/
def wrapBitsUptoCard : Claim7 := { stood := { row := wrapBitsUptoRow, standIns := [], harness := (true, "262b034b74fe4307db510f9f85a5ffad8f32cca601caf6bfdc0d65bfbfbbb596"), looks := false }, kinds := [], alts := [], laidByText := true, laidKinds := [.data, .data, .data], laidTests := true, laidLooks := .later }
def WrapBitsUptoCardSaid : Prop := Claim7.holds Tryd.pinned (.plain (OpenSpec.upto wrapBitsSpec)) wrapBitsUptoCard

/-- THE SECOND FORM's CARD OF 'evenhandlaw01.WrapOrder'. -/
def wrapOrderUptoCard : Claim7 := { stood := { row := wrapOrderUptoRow, standIns := [], harness := (true, "262b034b74fe4307db510f9f85a5ffad8f32cca601caf6bfdc0d65bfbfbbb596"), looks := false }, kinds := [], alts := [], laidByText := true, laidKinds := [.data, .data, .data], laidTests := true, laidLooks := .later }
def WrapOrderUptoCardSaid : Prop := Claim7.holds Tryd.pinned (.plain (OpenSpec.upto wrapOrderSpec)) wrapOrderUptoCard

/-- THE SECOND FORM's CARD OF 'evenhandlaw01.WrapDigits'. -/
def wrapDigitsUptoCard : Claim7 := { stood := { row := wrapDigitsUptoRow, standIns := [], harness := (true, "262b034b74fe4307db510f9f85a5ffad8f32cca601caf6bfdc0d65bfbfbbb596"), looks := false }, kinds := [], alts := [], laidByText := true, laidKinds := [.data, .data, .data], laidTests := true, laidLooks := .later }
def WrapDigitsUptoCardSaid : Prop := Claim7.holds Tryd.pinned (.plain (OpenSpec.upto wrapDigitsSpec)) wrapDigitsUptoCard

/-- THE SECOND FORM's CARD OF 'evenhandlaw01.WrapSigns'. -/
def wrapSignsUptoCard : Claim7 := { stood := { row := wrapSignsUptoRow, standIns := [], harness := (true, "262b034b74fe4307db510f9f85a5ffad8f32cca601caf6bfdc0d65bfbfbbb596"), looks := false }, kinds := [], alts := [], laidByText := true, laidKinds := [.data, .data, .data], laidTests := true, laidLooks := .later }
def WrapSignsUptoCardSaid : Prop := Claim7.holds Tryd.pinned (.plain (OpenSpec.upto wrapSignsSpec)) wrapSignsUptoCard

/-- THE SECOND FORM's CARD OF 'evenhandlaw01.WrapOps'. -/
def wrapOpsUptoCard : Claim7 := { stood := { row := wrapOpsUptoRow, standIns := [], harness := (true, "262b034b74fe4307db510f9f85a5ffad8f32cca601caf6bfdc0d65bfbfbbb596"), looks := false }, kinds := [], alts := [], laidByText := true, laidKinds := [.data, .data, .data], laidTests := true, laidLooks := .later }
def WrapOpsUptoCardSaid : Prop := Claim7.holds Tryd.pinned (.plain (OpenSpec.upto wrapOpsSpec)) wrapOpsUptoCard
end Rows
end Go.Proofs.YtohkafjfolojcaaDoor
