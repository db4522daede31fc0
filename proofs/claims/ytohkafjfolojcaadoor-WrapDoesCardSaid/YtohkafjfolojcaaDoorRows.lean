/-
  NARROWER THAN 'FOR EVERY INPUT', by the rows' own cells (each row's printed sentence says how): WrapDoes: laid · WrapTexts: laid · WrapRing: laid · WrapParts: laid · WrapBits: laid · WrapOrder: laid · WrapDigits: laid · WrapSigns: laid · WrapOps: laid.
  DERIVED. THE GIVEN ROWS OF THIS SEAT. 9 by the template 'for every input the law returns true; each argument reads behind the call as it read before'; 0 by the template 'total and deterministic' (their statements: YtohkafjfolojcaaDoorTotals.lean).
  GIVEN WITH THE SEED: the statements are not yours to turn. If you find one false, say at which input.
  Laid BY PROGRAM, IN A SANDBOX (cutbox-rows.mjs): the forced cells as the released guide's own fill.sh prints them over the translation 7d57cc0cc8d21539… (all of the seat's roots in one cut). By AI agents, Wed Nov 11 2026. No macro, syntax, notation, axiom, sorry.
-/
import Derived.Test.YtohkafjfolojcaaDoorChecked
import GoSem.Claim
import GoSem.ClaimJoined
import GoSem.ClaimMapViews
import Derived.JoinedTies
import Derived.KernelRfl
namespace Go.Proofs.YtohkafjfolojcaaDoor
/- THE CELL 'sum', in the pinned program and in every row, IS THE sha256 OF THE DUMP (.gsa) THAT YtohkafjfolojcaaDoorProg.lean LOADS. Nothing in Lean hashes anything: it is a label: what it is worth is what the hold of that sum in a sandbox is worth. -/
noncomputable def Tryd.pinned : Pinned := { name := "ytohkafjfolojcaadoor", sum := "7d57cc0cc8d21539315ad4e4cfa96663942aa6324a38d12a2069859f3d143fb2", checked := Tryd.checked }
namespace Rows
def none {H : Type} : Left H := { results := [], args := [] }

/- WHAT THE LISTED PACKAGE-LEVEL VARIABLES READ AS WHEN THE CALL BEGINS. Each datum BY PROGRAM (the guide's laid-datum.mjs) off the statement by which the dump's own 'gosem.cut.vars' lays the variable. In a bare row this is a premise. The card (YtohkafjfolojcaaDoorCards.lean) ties it to the program's text. -/
def laid_math_bits_deBruijn32tab {H : Type} : DataW H := .agg [.lit (.int .u8 0), .lit (.int .u8 1), .lit (.int .u8 28), .lit (.int .u8 2), .lit (.int .u8 29), .lit (.int .u8 14), .lit (.int .u8 24), .lit (.int .u8 3), .lit (.int .u8 30), .lit (.int .u8 22), .lit (.int .u8 20), .lit (.int .u8 15), .lit (.int .u8 25), .lit (.int .u8 17), .lit (.int .u8 4), .lit (.int .u8 8), .lit (.int .u8 31), .lit (.int .u8 27), .lit (.int .u8 13), .lit (.int .u8 23), .lit (.int .u8 21), .lit (.int .u8 19), .lit (.int .u8 16), .lit (.int .u8 7), .lit (.int .u8 26), .lit (.int .u8 12), .lit (.int .u8 18), .lit (.int .u8 6), .lit (.int .u8 11), .lit (.int .u8 5), .lit (.int .u8 10), .lit (.int .u8 9)]
def laid_math_bits_deBruijn64tab {H : Type} : DataW H := .agg [.lit (.int .u8 0), .lit (.int .u8 1), .lit (.int .u8 56), .lit (.int .u8 2), .lit (.int .u8 57), .lit (.int .u8 49), .lit (.int .u8 28), .lit (.int .u8 3), .lit (.int .u8 61), .lit (.int .u8 58), .lit (.int .u8 42), .lit (.int .u8 50), .lit (.int .u8 38), .lit (.int .u8 29), .lit (.int .u8 17), .lit (.int .u8 4), .lit (.int .u8 62), .lit (.int .u8 47), .lit (.int .u8 59), .lit (.int .u8 36), .lit (.int .u8 45), .lit (.int .u8 43), .lit (.int .u8 51), .lit (.int .u8 22), .lit (.int .u8 53), .lit (.int .u8 39), .lit (.int .u8 33), .lit (.int .u8 30), .lit (.int .u8 24), .lit (.int .u8 18), .lit (.int .u8 12), .lit (.int .u8 5), .lit (.int .u8 63), .lit (.int .u8 55), .lit (.int .u8 48), .lit (.int .u8 27), .lit (.int .u8 60), .lit (.int .u8 41), .lit (.int .u8 37), .lit (.int .u8 16), .lit (.int .u8 46), .lit (.int .u8 35), .lit (.int .u8 44), .lit (.int .u8 21), .lit (.int .u8 52), .lit (.int .u8 32), .lit (.int .u8 23), .lit (.int .u8 11), .lit (.int .u8 54), .lit (.int .u8 26), .lit (.int .u8 40), .lit (.int .u8 15), .lit (.int .u8 34), .lit (.int .u8 20), .lit (.int .u8 31), .lit (.int .u8 10), .lit (.int .u8 25), .lit (.int .u8 14), .lit (.int .u8 19), .lit (.int .u8 9), .lit (.int .u8 13), .lit (.int .u8 8), .lit (.int .u8 7), .lit (.int .u8 6)]
def laid_internal_strconv_uint64pow10 {H : Type} : DataW H := .agg [.lit (.int .u64 1), .lit (.int .u64 10), .lit (.int .u64 100), .lit (.int .u64 1000), .lit (.int .u64 10000), .lit (.int .u64 100000), .lit (.int .u64 1000000), .lit (.int .u64 10000000), .lit (.int .u64 100000000), .lit (.int .u64 1000000000), .lit (.int .u64 10000000000), .lit (.int .u64 100000000000), .lit (.int .u64 1000000000000), .lit (.int .u64 10000000000000), .lit (.int .u64 100000000000000), .lit (.int .u64 1000000000000000), .lit (.int .u64 10000000000000000), .lit (.int .u64 100000000000000000), .lit (.int .u64 1000000000000000000), .lit (.int .u64 10000000000000000000)]

/-- 'evenhandlaw01.WrapDoes': WHATEVER THE INPUT: true; the input reads as it did. -/
def wrapDoesSpec : ChangeSpec := { name := "wrapDoes", fn := fun _ => fun
  | [d1, d2, d3] => { results := [.lit (.bool true)], args := [d1, d2, d3] }
  | _ => none }
def wrapDoesRow : OpenClaim := { program := "ytohkafjfolojcaadoor", sum := "7d57cc0cc8d21539315ad4e4cfa96663942aa6324a38d12a2069859f3d143fb2", func := "evenhand/evenhandlaw01.WrapDoes", spec := "wrapDoes", named := ["internal/strconv.uint64pow10", "math/bits.deBruijn32tab", "math/bits.deBruijn64tab"], apart := false, laid := [("math/bits.deBruijn32tab", laid_math_bits_deBruijn32tab), ("math/bits.deBruijn64tab", laid_math_bits_deBruijn64tab), ("internal/strconv.uint64pow10", laid_internal_strconv_uint64pow10)] }
def WrapDoesSaid : Prop := wrapDoesRow.holds Tryd.pinned (OpenSpec.ofChange wrapDoesSpec)

/-- ITS FALSE NEIGHBOUR: 'it returns false'. Refute it at one input. -/
def wrapDoesWrong : ChangeSpec := { name := "wrapDoes", fn := fun _ => fun
  | [d1, d2, d3] => { results := [.lit (.bool false)], args := [d1, d2, d3] }
  | _ => none }
def WrapDoesWrongFalsely : Prop := wrapDoesRow.holds Tryd.pinned (OpenSpec.ofChange wrapDoesWrong)

/-- 'evenhandlaw01.WrapTexts': WHATEVER THE INPUT: true; the input reads as it did. -/
def wrapTextsSpec : ChangeSpec := { name := "wrapTexts", fn := fun _ => fun
  | [d1, d2] => { results := [.lit (.bool true)], args := [d1, d2] }
  | _ => none }
def wrapTextsRow : OpenClaim := { program := "ytohkafjfolojcaadoor", sum := "7d57cc0cc8d21539315ad4e4cfa96663942aa6324a38d12a2069859f3d143fb2", func := "evenhand/evenhandlaw01.WrapTexts", spec := "wrapTexts", named := ["internal/strconv.uint64pow10", "math/bits.deBruijn32tab", "math/bits.deBruijn64tab"], apart := false, laid := [("math/bits.deBruijn32tab", laid_math_bits_deBruijn32tab), ("math/bits.deBruijn64tab", laid_math_bits_deBruijn64tab), ("internal/strconv.uint64pow10", laid_internal_strconv_uint64pow10)] }
def WrapTextsSaid : Prop := wrapTextsRow.holds Tryd.pinned (OpenSpec.ofChange wrapTextsSpec)

/-- ITS FALSE NEIGHBOUR: 'it returns false'. Refute it at one input. -/
def wrapTextsWrong : ChangeSpec := { name := "wrapTexts", fn := fun _ => fun
  | [d1, d2] => { results := [.lit (.bool false)], args := [d1, d2] }
  | _ => none }
def WrapTextsWrongFalsely : Prop := wrapTextsRow.holds Tryd.pinned (OpenSpec.ofChange wrapTextsWrong)

/-- 'evenhandlaw01.WrapRing': WHATEVER THE INPUT: true; the input reads as it did. -/
def wrapRingSpec : ChangeSpec := { name := "wrapRing", fn := fun _ => fun
  | [d1, d2, d3] => { results := [.lit (.bool true)], args := [d1, d2, d3] }
  | _ => none }
def wrapRingRow : OpenClaim := { program := "ytohkafjfolojcaadoor", sum := "7d57cc0cc8d21539315ad4e4cfa96663942aa6324a38d12a2069859f3d143fb2", func := "evenhand/evenhandlaw01.WrapRing", spec := "wrapRing", named := ["internal/strconv.uint64pow10", "math/bits.deBruijn32tab", "math/bits.deBruijn64tab"], apart := false, laid := [("math/bits.deBruijn32tab", laid_math_bits_deBruijn32tab), ("math/bits.deBruijn64tab", laid_math_bits_deBruijn64tab), ("internal/strconv.uint64pow10", laid_internal_strconv_uint64pow10)] }
def WrapRingSaid : Prop := wrapRingRow.holds Tryd.pinned (OpenSpec.ofChange wrapRingSpec)

/-- ITS FALSE NEIGHBOUR: 'it returns false'. Refute it at one input. -/
def wrapRingWrong : ChangeSpec := { name := "wrapRing", fn := fun _ => fun
  | [d1, d2, d3] => { results := [.lit (.bool false)], args := [d1, d2, d3] }
  | _ => none }
def WrapRingWrongFalsely : Prop := wrapRingRow.holds Tryd.pinned (OpenSpec.ofChange wrapRingWrong)

/-- 'evenhandlaw01.WrapParts': WHATEVER THE INPUT: true; the input reads as it did. -/
def wrapPartsSpec : ChangeSpec := { name := "wrapParts", fn := fun _ => fun
  | [d1, d2] => { results := [.lit (.bool true)], args := [d1, d2] }
  | _ => none }
def wrapPartsRow : OpenClaim := { program := "ytohkafjfolojcaadoor", sum := "7d57cc0cc8d21539315ad4e4cfa96663942aa6324a38d12a2069859f3d143fb2", func := "evenhand/evenhandlaw01.WrapParts", spec := "wrapParts", named := ["internal/strconv.uint64pow10", "math/bits.deBruijn32tab", "math/bits.deBruijn64tab"], apart := false, laid := [("math/bits.deBruijn32tab", laid_math_bits_deBruijn32tab), ("math/bits.deBruijn64tab", laid_math_bits_deBruijn64tab), ("internal/strconv.uint64pow10", laid_internal_strconv_uint64pow10)] }
def WrapPartsSaid : Prop := wrapPartsRow.holds Tryd.pinned (OpenSpec.ofChange wrapPartsSpec)

/-- ITS FALSE NEIGHBOUR: 'it returns false'. Refute it at one input. -/
def wrapPartsWrong : ChangeSpec := { name := "wrapParts", fn := fun _ => fun
  | [d1, d2] => { results := [.lit (.bool false)], args := [d1, d2] }
  | _ => none }
def WrapPartsWrongFalsely : Prop := wrapPartsRow.holds Tryd.pinned (OpenSpec.ofChange wrapPartsWrong)

/-- 'evenhandlaw01.WrapBits': WHATEVER THE INPUT: true; the input reads as it did. -/
def wrapBitsSpec : ChangeSpec := { name := "wrapBits", fn := fun _ => fun
  | [d1, d2] => { results := [.lit (.bool true)], args := [d1, d2] }
  | _ => none }
def wrapBitsRow : OpenClaim := { program := "ytohkafjfolojcaadoor", sum := "7d57cc0cc8d21539315ad4e4cfa96663942aa6324a38d12a2069859f3d143fb2", func := "evenhand/evenhandlaw01.WrapBits", spec := "wrapBits", named := ["internal/strconv.uint64pow10", "math/bits.deBruijn32tab", "math/bits.deBruijn64tab"], apart := false, laid := [("math/bits.deBruijn32tab", laid_math_bits_deBruijn32tab), ("math/bits.deBruijn64tab", laid_math_bits_deBruijn64tab), ("internal/strconv.uint64pow10", laid_internal_strconv_uint64pow10)] }
def WrapBitsSaid : Prop := wrapBitsRow.holds Tryd.pinned (OpenSpec.ofChange wrapBitsSpec)

/-- ITS FALSE NEIGHBOUR: 'it returns false'. Refute it at one input. -/
def wrapBitsWrong : ChangeSpec := { name := "wrapBits", fn := fun _ => fun
  | [d1, d2] => { results := [.lit (.bool false)], args := [d1, d2] }
  | _ => none }
def WrapBitsWrongFalsely : Prop := wrapBitsRow.holds Tryd.pinned (OpenSpec.ofChange wrapBitsWrong)

/-- 'evenhandlaw01.WrapOrder': WHATEVER THE INPUT: true; the input reads as it did. -/
def wrapOrderSpec : ChangeSpec := { name := "wrapOrder", fn := fun _ => fun
  | [d1, d2, d3] => { results := [.lit (.bool true)], args := [d1, d2, d3] }
  | _ => none }
def wrapOrderRow : OpenClaim := { program := "ytohkafjfolojcaadoor", sum := "7d57cc0cc8d21539315ad4e4cfa96663942aa6324a38d12a2069859f3d143fb2", func := "evenhand/evenhandlaw01.WrapOrder", spec := "wrapOrder", named := ["internal/strconv.uint64pow10", "math/bits.deBruijn32tab", "math/bits.deBruijn64tab"], apart := false, laid := [("math/bits.deBruijn32tab", laid_math_bits_deBruijn32tab), ("math/bits.deBruijn64tab", laid_math_bits_deBruijn64tab), ("internal/strconv.uint64pow10", laid_internal_strconv_uint64pow10)] }
def WrapOrderSaid : Prop := wrapOrderRow.holds Tryd.pinned (OpenSpec.ofChange wrapOrderSpec)

/-- ITS FALSE NEIGHBOUR: 'it returns false'. Refute it at one input. -/
def wrapOrderWrong : ChangeSpec := { name := "wrapOrder", fn := fun _ => fun
  | [d1, d2, d3] => { results := [.lit (.bool false)], args := [d1, d2, d3] }
  | _ => none }
def WrapOrderWrongFalsely : Prop := wrapOrderRow.holds Tryd.pinned (OpenSpec.ofChange wrapOrderWrong)

/-- 'evenhandlaw01.WrapDigits': WHATEVER THE INPUT: true; the input reads as it did. -/
def wrapDigitsSpec : ChangeSpec := { name := "wrapDigits", fn := fun _ => fun
  | [d1, d2, d3] => { results := [.lit (.bool true)], args := [d1, d2, d3] }
  | _ => none }
def wrapDigitsRow : OpenClaim := { program := "ytohkafjfolojcaadoor", sum := "7d57cc0cc8d21539315ad4e4cfa96663942aa6324a38d12a2069859f3d143fb2", func := "evenhand/evenhandlaw01.WrapDigits", spec := "wrapDigits", named := ["internal/strconv.uint64pow10", "math/bits.deBruijn32tab", "math/bits.deBruijn64tab"], apart := false, laid := [("math/bits.deBruijn32tab", laid_math_bits_deBruijn32tab), ("math/bits.deBruijn64tab", laid_math_bits_deBruijn64tab), ("internal/strconv.uint64pow10", laid_internal_strconv_uint64pow10)] }
def WrapDigitsSaid : Prop := wrapDigitsRow.holds Tryd.pinned (OpenSpec.ofChange wrapDigitsSpec)

/-- ITS FALSE NEIGHBOUR: 'it returns false'. Refute it at one input. -/
def wrapDigitsWrong : ChangeSpec := { name := "wrapDigits", fn := fun _ => fun
  | [d1, d2, d3] => { results := [.lit (.bool false)], args := [d1, d2, d3] }
  | _ => none }
def WrapDigitsWrongFalsely : Prop := wrapDigitsRow.holds Tryd.pinned (OpenSpec.ofChange wrapDigitsWrong)

/-- 'evenhandlaw01.WrapSigns': WHATEVER THE INPUT: true; the input reads as it did. -/
def wrapSignsSpec : ChangeSpec := { name := "wrapSigns", fn := fun _ => fun
  | [d1, d2] => { results := [.lit (.bool true)], args := [d1, d2] }
  | _ => none }
def wrapSignsRow : OpenClaim := { program := "ytohkafjfolojcaadoor", sum := "7d57cc0cc8d21539315ad4e4cfa96663942aa6324a38d12a2069859f3d143fb2", func := "evenhand/evenhandlaw01.WrapSigns", spec := "wrapSigns", named := ["internal/strconv.uint64pow10", "math/bits.deBruijn32tab", "math/bits.deBruijn64tab"], apart := false, laid := [("math/bits.deBruijn32tab", laid_math_bits_deBruijn32tab), ("math/bits.deBruijn64tab", laid_math_bits_deBruijn64tab), ("internal/strconv.uint64pow10", laid_internal_strconv_uint64pow10)] }
def WrapSignsSaid : Prop := wrapSignsRow.holds Tryd.pinned (OpenSpec.ofChange wrapSignsSpec)

/-- ITS FALSE NEIGHBOUR: 'it returns false'. Refute it at one input. -/
def wrapSignsWrong : ChangeSpec := { name := "wrapSigns", fn := fun _ => fun
  | [d1, d2] => { results := [.lit (.bool false)], args := [d1, d2] }
  | _ => none }
def WrapSignsWrongFalsely : Prop := wrapSignsRow.holds Tryd.pinned (OpenSpec.ofChange wrapSignsWrong)

/-- 'evenhandlaw01.WrapOps': WHATEVER THE INPUT: true; the input reads as it did. -/
def wrapOpsSpec : ChangeSpec := { name := "wrapOps", fn := fun _ => fun
  | [d1, d2, d3, d4] => { results := [.lit (.bool true)], args := [d1, d2, d3, d4] }
  | _ => none }
def wrapOpsRow : OpenClaim := { program := "ytohkafjfolojcaadoor", sum := "7d57cc0cc8d21539315ad4e4cfa96663942aa6324a38d12a2069859f3d143fb2", func := "evenhand/evenhandlaw01.WrapOps", spec := "wrapOps", named := ["internal/strconv.uint64pow10", "math/bits.deBruijn32tab", "math/bits.deBruijn64tab"], apart := false, laid := [("math/bits.deBruijn32tab", laid_math_bits_deBruijn32tab), ("math/bits.deBruijn64tab", laid_math_bits_deBruijn64tab), ("internal/strconv.uint64pow10", laid_internal_strconv_uint64pow10)] }
def WrapOpsSaid : Prop := wrapOpsRow.holds Tryd.pinned (OpenSpec.ofChange wrapOpsSpec)

/-- ITS FALSE NEIGHBOUR: 'it returns false'. Refute it at one input. -/
def wrapOpsWrong : ChangeSpec := { name := "wrapOps", fn := fun _ => fun
  | [d1, d2, d3, d4] => { results := [.lit (.bool false)], args := [d1, d2, d3, d4] }
  | _ => none }
def WrapOpsWrongFalsely : Prop := wrapOpsRow.holds Tryd.pinned (OpenSpec.ofChange wrapOpsWrong)

/- THE SECOND FORM. 'bulk': how many values and letters a reading holds, each counted each time it is reached (what is shared counts as often as it is met; a slice's spare places count too). A statement '..UptoSaid' is the law's where the arguments, and the package variables that the reading takes, are together of bulk at most 1048576: NARROWER than '..Said'. Prove '..Said' where nothing that the law and all that it calls make is longer than what came in: it says more and counts as full. Else prove '..UptoSaid'. A law counts once. -/
mutual
def uptoBulk {H : Type} : DataW H → Nat
  | .lit (.string bytes) => bytes.length + 1
  | .lit _ => 1
  | .nil => 1
  | .ptr d => uptoBulk d + 1
  | .slice elems spare => uptoBulkAll elems + uptoBulkAll spare + 1
  | .agg parts => uptoBulkAll parts + 1
  | .iface _ d => uptoBulk d + 1
  | .map entries => uptoBulkEntries entries + 1
  | .held _ => 1
def uptoBulkAll {H : Type} : List (DataW H) → Nat
  | [] => 0
  | d :: r => uptoBulk d + uptoBulkAll r
def uptoBulkEntries {H : Type} : List (Lit × DataW H) → Nat
  | [] => 0
  | x :: r => uptoBulkEntry x + uptoBulkEntries r
def uptoBulkEntry {H : Type} : Lit × DataW H → Nat
  | (.string bytes, d) => bytes.length + uptoBulk d + 1
  | (_, d) => uptoBulk d + 1
 end
def uptoSmall : (H : Type) → List (DataW H) → Bool := fun _ ds => decide (uptoBulkAll ds ≤ 1048576)
def OpenSpec.upto (s : _root_.Go.ChangeSpec) : _root_.Go.OpenSpec := { _root_.Go.OpenSpec.ofChange s with cond := some uptoSmall }

/-- 'evenhandlaw01.WrapDoes', WHERE WHAT IT READS IS OF BULK AT MOST 1048576: true; the input reads as it did. -/
def wrapDoesUptoRow : OpenClaim := { program := "ytohkafjfolojcaadoor", sum := "7d57cc0cc8d21539315ad4e4cfa96663942aa6324a38d12a2069859f3d143fb2", func := "evenhand/evenhandlaw01.WrapDoes", spec := "wrapDoes", named := ["internal/strconv.uint64pow10", "math/bits.deBruijn32tab", "math/bits.deBruijn64tab"], apart := false, laid := [("math/bits.deBruijn32tab", laid_math_bits_deBruijn32tab), ("math/bits.deBruijn64tab", laid_math_bits_deBruijn64tab), ("internal/strconv.uint64pow10", laid_internal_strconv_uint64pow10)], narrowed := true }
def WrapDoesUptoSaid : Prop := wrapDoesUptoRow.holds Tryd.pinned (OpenSpec.upto wrapDoesSpec)

/-- 'evenhandlaw01.WrapTexts', WHERE WHAT IT READS IS OF BULK AT MOST 1048576: true; the input reads as it did. -/
def wrapTextsUptoRow : OpenClaim := { program := "ytohkafjfolojcaadoor", sum := "7d57cc0cc8d21539315ad4e4cfa96663942aa6324a38d12a2069859f3d143fb2", func := "evenhand/evenhandlaw01.WrapTexts", spec := "wrapTexts", named := ["internal/strconv.uint64pow10", "math/bits.deBruijn32tab", "math/bits.deBruijn64tab"], apart := false, laid := [("math/bits.deBruijn32tab", laid_math_bits_deBruijn32tab), ("math/bits.deBruijn64tab", laid_math_bits_deBruijn64tab), ("internal/strconv.uint64pow10", laid_internal_strconv_uint64pow10)], narrowed := true }
def WrapTextsUptoSaid : Prop := wrapTextsUptoRow.holds Tryd.pinned (OpenSpec.upto wrapTextsSpec)

/-- 'evenhandlaw01.WrapRing', WHERE WHAT IT READS IS OF BULK AT MOST 1048576: true; the input reads as it did. -/
def wrapRingUptoRow : OpenClaim := { program := "ytohkafjfolojcaadoor", sum := "7d57cc0cc8d21539315ad4e4cfa96663942aa6324a38d12a2069859f3d143fb2", func := "evenhand/evenhandlaw01.WrapRing", spec := "wrapRing", named := ["internal/strconv.uint64pow10", "math/bits.deBruijn32tab", "math/bits.deBruijn64tab"], apart := false, laid := [("math/bits.deBruijn32tab", laid_math_bits_deBruijn32tab), ("math/bits.deBruijn64tab", laid_math_bits_deBruijn64tab), ("internal/strconv.uint64pow10", laid_internal_strconv_uint64pow10)], narrowed := true }
def WrapRingUptoSaid : Prop := wrapRingUptoRow.holds Tryd.pinned (OpenSpec.upto wrapRingSpec)

/-- 'evenhandlaw01.WrapParts', WHERE WHAT IT READS IS OF BULK AT MOST 1048576: true; the input reads as it did. -/
def wrapPartsUptoRow : OpenClaim := { program := "ytohkafjfolojcaadoor", sum := "7d57cc0cc8d21539315ad4e4cfa96663942aa6324a38d12a2069859f3d143fb2", func := "evenhand/evenhandlaw01.WrapParts", spec := "wrapParts", named := ["internal/strconv.uint64pow10", "math/bits.deBruijn32tab", "math/bits.deBruijn64tab"], apart := false, laid := [("math/bits.deBruijn32tab", laid_math_bits_deBruijn32tab), ("math/bits.deBruijn64tab", laid_math_bits_deBruijn64tab), ("internal/strconv.uint64pow10", laid_internal_strconv_uint64pow10)], narrowed := true }
def WrapPartsUptoSaid : Prop := wrapPartsUptoRow.holds Tryd.pinned (OpenSpec.upto wrapPartsSpec)

/-- 'evenhandlaw01.WrapBits', WHERE WHAT IT READS IS OF BULK AT MOST 1048576: true; the input reads as it did. -/
def wrapBitsUptoRow : OpenClaim := { program := "ytohkafjfolojcaadoor", sum := "7d57cc0cc8d21539315ad4e4cfa96663942aa6324a38d12a2069859f3d143fb2", func := "evenhand/evenhandlaw01.WrapBits", spec := "wrapBits", named := ["internal/strconv.uint64pow10", "math/bits.deBruijn32tab", "math/bits.deBruijn64tab"], apart := false, laid := [("math/bits.deBruijn32tab", laid_math_bits_deBruijn32tab), ("math/bits.deBruijn64tab", laid_math_bits_deBruijn64tab), ("internal/strconv.uint64pow10", laid_internal_strconv_uint64pow10)], narrowed := true }
def WrapBitsUptoSaid : Prop := wrapBitsUptoRow.holds Tryd.pinned (OpenSpec.upto wrapBitsSpec)

/-- 'evenhandlaw01.WrapOrder', WHERE WHAT IT READS IS OF BULK AT MOST 1048576: true; the input reads as it did. -/
def wrapOrderUptoRow : OpenClaim := { program := "ytohkafjfolojcaadoor", sum := "7d57cc0cc8d21539315ad4e4cfa96663942aa6324a38d12a2069859f3d143fb2", func := "evenhand/evenhandlaw01.WrapOrder", spec := "wrapOrder", named := ["internal/strconv.uint64pow10", "math/bits.deBruijn32tab", "math/bits.deBruijn64tab"], apart := false, laid := [("math/bits.deBruijn32tab", laid_math_bits_deBruijn32tab), ("math/bits.deBruijn64tab", laid_math_bits_deBruijn64tab), ("internal/strconv.uint64pow10", laid_internal_strconv_uint64pow10)], narrowed := true }
def WrapOrderUptoSaid : Prop := wrapOrderUptoRow.holds Tryd.pinned (OpenSpec.upto wrapOrderSpec)

/-- 'evenhandlaw01.WrapDigits', WHERE WHAT IT READS IS OF BULK AT MOST 1048576: true; the input reads as it did. -/
def wrapDigitsUptoRow : OpenClaim := { program := "ytohkafjfolojcaadoor", sum := "7d57cc0cc8d21539315ad4e4cfa96663942aa6324a38d12a2069859f3d143fb2", func := "evenhand/evenhandlaw01.WrapDigits", spec := "wrapDigits", named := ["internal/strconv.uint64pow10", "math/bits.deBruijn32tab", "math/bits.deBruijn64tab"], apart := false, laid := [("math/bits.deBruijn32tab", laid_math_bits_deBruijn32tab), ("math/bits.deBruijn64tab", laid_math_bits_deBruijn64tab), ("internal/strconv.uint64pow10", laid_internal_strconv_uint64pow10)], narrowed := true }
def WrapDigitsUptoSaid : Prop := wrapDigitsUptoRow.holds Tryd.pinned (OpenSpec.upto wrapDigitsSpec)

/-- 'evenhandlaw01.WrapSigns', WHERE WHAT IT READS IS OF BULK AT MOST 1048576: true; the input reads as it did. -/
def wrapSignsUptoRow : OpenClaim := { program := "ytohkafjfolojcaadoor", sum := "7d57cc0cc8d21539315ad4e4cfa96663942aa6324a38d12a2069859f3d143fb2", func := "evenhand/evenhandlaw01.WrapSigns", spec := "wrapSigns", named := ["internal/strconv.uint64pow10", "math/bits.deBruijn32tab", "math/bits.deBruijn64tab"], apart := false, laid := [("math/bits.deBruijn32tab", laid_math_bits_deBruijn32tab), ("math/bits.deBruijn64tab", laid_math_bits_deBruijn64tab), ("internal/strconv.uint64pow10", laid_internal_strconv_uint64pow10)], narrowed := true }
def WrapSignsUptoSaid : Prop := wrapSignsUptoRow.holds Tryd.pinned (OpenSpec.upto wrapSignsSpec)

/-- 'evenhandlaw01.WrapOps', WHERE WHAT IT READS IS OF BULK AT MOST 1048576: true; the input reads as it did. -/
def wrapOpsUptoRow : OpenClaim := { program := "ytohkafjfolojcaadoor", sum := "7d57cc0cc8d21539315ad4e4cfa96663942aa6324a38d12a2069859f3d143fb2", func := "evenhand/evenhandlaw01.WrapOps", spec := "wrapOps", named := ["internal/strconv.uint64pow10", "math/bits.deBruijn32tab", "math/bits.deBruijn64tab"], apart := false, laid := [("math/bits.deBruijn32tab", laid_math_bits_deBruijn32tab), ("math/bits.deBruijn64tab", laid_math_bits_deBruijn64tab), ("internal/strconv.uint64pow10", laid_internal_strconv_uint64pow10)], narrowed := true }
def WrapOpsUptoSaid : Prop := wrapOpsUptoRow.holds Tryd.pinned (OpenSpec.upto wrapOpsSpec)

end Rows
end Go.Proofs.YtohkafjfolojcaaDoor
