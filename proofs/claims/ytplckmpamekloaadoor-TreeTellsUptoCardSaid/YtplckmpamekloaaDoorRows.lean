/-
  NARROWER THAN 'FOR EVERY INPUT', by the rows' own cells (each row's printed sentence says how): TreeTells: loops, laid · TreeParts: loops, laid · TreeDeeper: loops, laid · TreeEqual: loops, laid · TreeNames: laid · TreeOps: laid · TreeLimits: laid · TreeSame: loops, laid.
  DERIVED. THE GIVEN ROWS OF THIS SEAT. 8 by the template 'for every input the law returns true; each argument reads behind the call as it read before'; 0 by the template 'total and deterministic' (their statements: YtplckmpamekloaaDoorTotals.lean).
  GIVEN WITH THE SEED: the statements are not yours to turn. If you find one false, say at which input.
  Laid BY PROGRAM, IN A SANDBOX (cutbox-rows.mjs): the forced cells as the released guide's own fill.sh prints them over the translation 63705f7ab7908a92… (all of the seat's roots in one cut). By AI agents, Wed Nov 11 2026. No macro, syntax, notation, axiom, sorry.
-/
import Derived.Test.YtplckmpamekloaaDoorChecked
import GoSem.Claim
import GoSem.ClaimJoined
import GoSem.ClaimMapViews
import Derived.JoinedTies
import Derived.KernelRfl
namespace Go.Proofs.YtplckmpamekloaaDoor
/- THE CELL 'sum', in the pinned program and in every row, IS THE sha256 OF THE DUMP (.gsa) THAT YtplckmpamekloaaDoorProg.lean LOADS. Nothing in Lean hashes anything: it is a label: what it is worth is what the hold of that sum in a sandbox is worth. -/
noncomputable def Tryd.pinned : Pinned := { name := "ytplckmpamekloaadoor", sum := "63705f7ab7908a929fffa1db42ffb2e10badc15dbaf8d1ad0ffa9dfd9681c06e", checked := Tryd.checked }
namespace Rows
def none {H : Type} : Left H := { results := [], args := [] }

/- WHAT THE LISTED PACKAGE-LEVEL VARIABLES READ AS WHEN THE CALL BEGINS. Each datum BY PROGRAM (the guide's laid-datum.mjs) off the statement by which the dump's own 'gosem.cut.vars' lays the variable. In a bare row this is a premise. The card (YtplckmpamekloaaDoorCards.lean) ties it to the program's text. -/
def laid_evenhand_tree_exprs {H : Type} : DataW H := .agg [.agg [.lit (.bool false), .lit (.int .i64 0), .lit (.int .i64 0), .lit (.int .i64 0), .lit (.bool false), .lit (.bool false)], .agg [.lit (.bool false), .lit (.int .i64 0), .lit (.int .i64 9223372036854775807), .lit (.int .i64 0), .lit (.bool false), .lit (.bool false)], .agg [.lit (.bool true), .lit (.int .i64 0), .lit (.int .i64 0), .lit (.int .i64 0), .lit (.bool false), .lit (.bool false)], .agg [.lit (.bool false), .lit (.int .i64 0), .lit (.int .i64 0), .lit (.int .i64 0), .lit (.bool false), .lit (.bool false)], .agg [.lit (.bool true), .lit (.int .i64 0), .lit (.int .i64 0), .lit (.int .i64 1), .lit (.bool false), .lit (.bool false)], .agg [.lit (.bool true), .lit (.int .i64 0), .lit (.int .i64 0), .lit (.int .i64 (-8)), .lit (.bool false), .lit (.bool false)], .agg [.lit (.bool false), .lit (.int .i64 0), .lit (.int .i64 0), .lit (.int .i64 1), .lit (.bool false), .lit (.bool false)], .agg [.lit (.bool false), .lit (.int .i64 0), .lit (.int .i64 0), .lit (.int .i64 1), .lit (.bool false), .lit (.bool false)], .agg [.lit (.bool false), .lit (.int .i64 0), .lit (.int .i64 0), .lit (.int .i64 2), .lit (.bool false), .lit (.bool false)], .agg [.lit (.bool false), .lit (.int .i64 0), .lit (.int .i64 0), .lit (.int .i64 2), .lit (.bool false), .lit (.bool false)], .agg [.lit (.bool false), .lit (.int .i64 0), .lit (.int .i64 0), .lit (.int .i64 2), .lit (.bool false), .lit (.bool false)], .agg [.lit (.bool false), .lit (.int .i64 0), .lit (.int .i64 0), .lit (.int .i64 2), .lit (.bool false), .lit (.bool false)], .agg [.lit (.bool false), .lit (.int .i64 0), .lit (.int .i64 0), .lit (.int .i64 2), .lit (.bool false), .lit (.bool false)], .agg [.lit (.bool false), .lit (.int .i64 0), .lit (.int .i64 0), .lit (.int .i64 2), .lit (.bool false), .lit (.bool false)], .agg [.lit (.bool false), .lit (.int .i64 0), .lit (.int .i64 0), .lit (.int .i64 2), .lit (.bool false), .lit (.bool false)], .agg [.lit (.bool false), .lit (.int .i64 0), .lit (.int .i64 0), .lit (.int .i64 2), .lit (.bool false), .lit (.bool false)], .agg [.lit (.bool false), .lit (.int .i64 0), .lit (.int .i64 0), .lit (.int .i64 2), .lit (.bool false), .lit (.bool false)]]
def laid_evenhand_tree_stmts {H : Type} : DataW H := .agg [.agg [.lit (.bool false), .lit (.int .i64 0), .lit (.int .i64 0), .lit (.int .i64 0), .lit (.bool false), .lit (.bool false)], .agg [.lit (.bool true), .lit (.int .i64 0), .lit (.int .i64 0), .lit (.int .i64 1), .lit (.bool false), .lit (.bool false)], .agg [.lit (.bool true), .lit (.int .i64 0), .lit (.int .i64 0), .lit (.int .i64 2), .lit (.bool false), .lit (.bool false)], .agg [.lit (.bool true), .lit (.int .i64 1), .lit (.int .i64 4096), .lit (.int .i64 0), .lit (.bool false), .lit (.bool false)], .agg [.lit (.bool true), .lit (.int .i64 0), .lit (.int .i64 0), .lit (.int .i64 0), .lit (.bool false), .lit (.bool false)], .agg [.lit (.bool false), .lit (.int .i64 0), .lit (.int .i64 0), .lit (.int .i64 1), .lit (.bool false), .lit (.bool false)], .agg [.lit (.bool false), .lit (.int .i64 0), .lit (.int .i64 0), .lit (.int .i64 1), .lit (.bool false), .lit (.bool false)], .agg [.lit (.bool false), .lit (.int .i64 0), .lit (.int .i64 0), .lit (.int .i64 1), .lit (.bool true), .lit (.bool true)], .agg [.lit (.bool false), .lit (.int .i64 0), .lit (.int .i64 0), .lit (.int .i64 1), .lit (.bool true), .lit (.bool false)], .agg [.lit (.bool false), .lit (.int .i64 0), .lit (.int .i64 0), .lit (.int .i64 1), .lit (.bool false), .lit (.bool false)]]

/-- 'evenhandlaw03.TreeTells': WHATEVER THE INPUT: true; the input reads as it did. -/
def treeTellsSpec : ChangeSpec := { name := "treeTells", fn := fun _ => fun
  | [d1, d2, d3] => { results := [.lit (.bool true)], args := [d1, d2, d3] }
  | _ => none }
def treeTellsRow : OpenClaim := { program := "ytplckmpamekloaadoor", sum := "63705f7ab7908a929fffa1db42ffb2e10badc15dbaf8d1ad0ffa9dfd9681c06e", func := "evenhand/evenhandlaw03.TreeTells", spec := "treeTells", unfollowed := true, recurses := true, named := ["evenhand/tree.stmts", "evenhand/tree.exprs"], loops := true, apart := false, laid := [("evenhand/tree.exprs", laid_evenhand_tree_exprs), ("evenhand/tree.stmts", laid_evenhand_tree_stmts)] }
def TreeTellsSaid : Prop := treeTellsRow.holds Tryd.pinned (OpenSpec.ofChange treeTellsSpec)

/-- ITS FALSE NEIGHBOUR: 'it returns false'. Refute it at one input. -/
def treeTellsWrong : ChangeSpec := { name := "treeTells", fn := fun _ => fun
  | [d1, d2, d3] => { results := [.lit (.bool false)], args := [d1, d2, d3] }
  | _ => none }
def TreeTellsWrongFalsely : Prop := treeTellsRow.holds Tryd.pinned (OpenSpec.ofChange treeTellsWrong)

/-- 'evenhandlaw03.TreeParts': WHATEVER THE INPUT: true; the input reads as it did. -/
def treePartsSpec : ChangeSpec := { name := "treeParts", fn := fun _ => fun
  | [d1, d2] => { results := [.lit (.bool true)], args := [d1, d2] }
  | _ => none }
def treePartsRow : OpenClaim := { program := "ytplckmpamekloaadoor", sum := "63705f7ab7908a929fffa1db42ffb2e10badc15dbaf8d1ad0ffa9dfd9681c06e", func := "evenhand/evenhandlaw03.TreeParts", spec := "treeParts", unfollowed := true, recurses := true, named := ["evenhand/tree.stmts", "evenhand/tree.exprs"], loops := true, apart := false, laid := [("evenhand/tree.exprs", laid_evenhand_tree_exprs), ("evenhand/tree.stmts", laid_evenhand_tree_stmts)] }
def TreePartsSaid : Prop := treePartsRow.holds Tryd.pinned (OpenSpec.ofChange treePartsSpec)

/-- ITS FALSE NEIGHBOUR: 'it returns false'. Refute it at one input. -/
def treePartsWrong : ChangeSpec := { name := "treeParts", fn := fun _ => fun
  | [d1, d2] => { results := [.lit (.bool false)], args := [d1, d2] }
  | _ => none }
def TreePartsWrongFalsely : Prop := treePartsRow.holds Tryd.pinned (OpenSpec.ofChange treePartsWrong)

/-- 'evenhandlaw03.TreeDeeper': WHATEVER THE INPUT: true; the input reads as it did. -/
def treeDeeperSpec : ChangeSpec := { name := "treeDeeper", fn := fun _ => fun
  | [d1, d2] => { results := [.lit (.bool true)], args := [d1, d2] }
  | _ => none }
def treeDeeperRow : OpenClaim := { program := "ytplckmpamekloaadoor", sum := "63705f7ab7908a929fffa1db42ffb2e10badc15dbaf8d1ad0ffa9dfd9681c06e", func := "evenhand/evenhandlaw03.TreeDeeper", spec := "treeDeeper", unfollowed := true, recurses := true, named := ["evenhand/tree.stmts", "evenhand/tree.exprs"], loops := true, apart := false, laid := [("evenhand/tree.exprs", laid_evenhand_tree_exprs), ("evenhand/tree.stmts", laid_evenhand_tree_stmts)] }
def TreeDeeperSaid : Prop := treeDeeperRow.holds Tryd.pinned (OpenSpec.ofChange treeDeeperSpec)

/-- ITS FALSE NEIGHBOUR: 'it returns false'. Refute it at one input. -/
def treeDeeperWrong : ChangeSpec := { name := "treeDeeper", fn := fun _ => fun
  | [d1, d2] => { results := [.lit (.bool false)], args := [d1, d2] }
  | _ => none }
def TreeDeeperWrongFalsely : Prop := treeDeeperRow.holds Tryd.pinned (OpenSpec.ofChange treeDeeperWrong)

/-- 'evenhandlaw03.TreeEqual': WHATEVER THE INPUT: true; the input reads as it did. -/
def treeEqualSpec : ChangeSpec := { name := "treeEqual", fn := fun _ => fun
  | [d1, d2, d3] => { results := [.lit (.bool true)], args := [d1, d2, d3] }
  | _ => none }
def treeEqualRow : OpenClaim := { program := "ytplckmpamekloaadoor", sum := "63705f7ab7908a929fffa1db42ffb2e10badc15dbaf8d1ad0ffa9dfd9681c06e", func := "evenhand/evenhandlaw03.TreeEqual", spec := "treeEqual", unfollowed := true, recurses := true, named := ["evenhand/tree.stmts", "evenhand/tree.exprs"], loops := true, apart := false, laid := [("evenhand/tree.exprs", laid_evenhand_tree_exprs), ("evenhand/tree.stmts", laid_evenhand_tree_stmts)] }
def TreeEqualSaid : Prop := treeEqualRow.holds Tryd.pinned (OpenSpec.ofChange treeEqualSpec)

/-- ITS FALSE NEIGHBOUR: 'it returns false'. Refute it at one input. -/
def treeEqualWrong : ChangeSpec := { name := "treeEqual", fn := fun _ => fun
  | [d1, d2, d3] => { results := [.lit (.bool false)], args := [d1, d2, d3] }
  | _ => none }
def TreeEqualWrongFalsely : Prop := treeEqualRow.holds Tryd.pinned (OpenSpec.ofChange treeEqualWrong)

/-- 'evenhandlaw03.TreeNames': WHATEVER THE INPUT: true; the input reads as it did. -/
def treeNamesSpec : ChangeSpec := { name := "treeNames", fn := fun _ => fun
  | [d1, d2] => { results := [.lit (.bool true)], args := [d1, d2] }
  | _ => none }
def treeNamesRow : OpenClaim := { program := "ytplckmpamekloaadoor", sum := "63705f7ab7908a929fffa1db42ffb2e10badc15dbaf8d1ad0ffa9dfd9681c06e", func := "evenhand/evenhandlaw03.TreeNames", spec := "treeNames", unfollowed := true, recurses := true, named := ["evenhand/tree.stmts", "evenhand/tree.exprs"], apart := false, laid := [("evenhand/tree.exprs", laid_evenhand_tree_exprs), ("evenhand/tree.stmts", laid_evenhand_tree_stmts)] }
def TreeNamesSaid : Prop := treeNamesRow.holds Tryd.pinned (OpenSpec.ofChange treeNamesSpec)

/-- ITS FALSE NEIGHBOUR: 'it returns false'. Refute it at one input. -/
def treeNamesWrong : ChangeSpec := { name := "treeNames", fn := fun _ => fun
  | [d1, d2] => { results := [.lit (.bool false)], args := [d1, d2] }
  | _ => none }
def TreeNamesWrongFalsely : Prop := treeNamesRow.holds Tryd.pinned (OpenSpec.ofChange treeNamesWrong)

/-- 'evenhandlaw03.TreeOps': WHATEVER THE INPUT: true; the input reads as it did. -/
def treeOpsSpec : ChangeSpec := { name := "treeOps", fn := fun _ => fun
  | [d1, d2, d3, d4] => { results := [.lit (.bool true)], args := [d1, d2, d3, d4] }
  | _ => none }
def treeOpsRow : OpenClaim := { program := "ytplckmpamekloaadoor", sum := "63705f7ab7908a929fffa1db42ffb2e10badc15dbaf8d1ad0ffa9dfd9681c06e", func := "evenhand/evenhandlaw03.TreeOps", spec := "treeOps", unfollowed := true, recurses := true, named := ["evenhand/tree.stmts", "evenhand/tree.exprs"], apart := false, laid := [("evenhand/tree.exprs", laid_evenhand_tree_exprs), ("evenhand/tree.stmts", laid_evenhand_tree_stmts)] }
def TreeOpsSaid : Prop := treeOpsRow.holds Tryd.pinned (OpenSpec.ofChange treeOpsSpec)

/-- ITS FALSE NEIGHBOUR: 'it returns false'. Refute it at one input. -/
def treeOpsWrong : ChangeSpec := { name := "treeOps", fn := fun _ => fun
  | [d1, d2, d3, d4] => { results := [.lit (.bool false)], args := [d1, d2, d3, d4] }
  | _ => none }
def TreeOpsWrongFalsely : Prop := treeOpsRow.holds Tryd.pinned (OpenSpec.ofChange treeOpsWrong)

/-- 'evenhandlaw03.TreeLimits': WHATEVER THE INPUT: true; the input reads as it did. -/
def treeLimitsSpec : ChangeSpec := { name := "treeLimits", fn := fun _ => fun
  | [d1, d2, d3] => { results := [.lit (.bool true)], args := [d1, d2, d3] }
  | _ => none }
def treeLimitsRow : OpenClaim := { program := "ytplckmpamekloaadoor", sum := "63705f7ab7908a929fffa1db42ffb2e10badc15dbaf8d1ad0ffa9dfd9681c06e", func := "evenhand/evenhandlaw03.TreeLimits", spec := "treeLimits", unfollowed := true, recurses := true, named := ["evenhand/tree.stmts", "evenhand/tree.exprs"], apart := false, laid := [("evenhand/tree.exprs", laid_evenhand_tree_exprs), ("evenhand/tree.stmts", laid_evenhand_tree_stmts)] }
def TreeLimitsSaid : Prop := treeLimitsRow.holds Tryd.pinned (OpenSpec.ofChange treeLimitsSpec)

/-- ITS FALSE NEIGHBOUR: 'it returns false'. Refute it at one input. -/
def treeLimitsWrong : ChangeSpec := { name := "treeLimits", fn := fun _ => fun
  | [d1, d2, d3] => { results := [.lit (.bool false)], args := [d1, d2, d3] }
  | _ => none }
def TreeLimitsWrongFalsely : Prop := treeLimitsRow.holds Tryd.pinned (OpenSpec.ofChange treeLimitsWrong)

/-- 'evenhandlaw03.TreeSame': WHATEVER THE INPUT: true; the input reads as it did. -/
def treeSameSpec : ChangeSpec := { name := "treeSame", fn := fun _ => fun
  | [d1, d2, d3] => { results := [.lit (.bool true)], args := [d1, d2, d3] }
  | _ => none }
def treeSameRow : OpenClaim := { program := "ytplckmpamekloaadoor", sum := "63705f7ab7908a929fffa1db42ffb2e10badc15dbaf8d1ad0ffa9dfd9681c06e", func := "evenhand/evenhandlaw03.TreeSame", spec := "treeSame", unfollowed := true, recurses := true, named := ["evenhand/tree.stmts", "evenhand/tree.exprs"], loops := true, apart := false, laid := [("evenhand/tree.exprs", laid_evenhand_tree_exprs), ("evenhand/tree.stmts", laid_evenhand_tree_stmts)] }
def TreeSameSaid : Prop := treeSameRow.holds Tryd.pinned (OpenSpec.ofChange treeSameSpec)

/-- ITS FALSE NEIGHBOUR: 'it returns false'. Refute it at one input. -/
def treeSameWrong : ChangeSpec := { name := "treeSame", fn := fun _ => fun
  | [d1, d2, d3] => { results := [.lit (.bool false)], args := [d1, d2, d3] }
  | _ => none }
def TreeSameWrongFalsely : Prop := treeSameRow.holds Tryd.pinned (OpenSpec.ofChange treeSameWrong)

/- THE SECOND FORM. 'bulk': how many values and letters a reading holds, each counted each time it is reached (what is shared counts as often as it is met; a slice's spare places count too). A statement '..UptoSaid' is the law's where the arguments, and the package variables that the reading takes, are together of bulk at most 1048576: NARROWER than '..Said'. Prove '..Said' where nothing that the law and all that it calls make is longer than what came in: it says more and counts as full. Else prove '..UptoSaid'. A law counts once. -/
mutual
def uptoBulk {H : Type} : DataW H → Nat
  | .lit (.string bytes) => bytes.length + 1
  | .lit _ => 1
  | .nil => 1
  | .ptr d => uptoBulk d + 1
  | .slice elems spare => uptoBulkAll elems + uptoBulkAll spare + 1
  | .agg parts => uptoBulkAll parts + 1
  | .iface _ d => uptoBulk d + 1
  | .map entries => uptoBulkEntries entries + 1
  | .held _ => 1
def uptoBulkAll {H : Type} : List (DataW H) → Nat
  | [] => 0
  | d :: r => uptoBulk d + uptoBulkAll r
def uptoBulkEntries {H : Type} : List (Lit × DataW H) → Nat
  | [] => 0
  | x :: r => uptoBulkEntry x + uptoBulkEntries r
def uptoBulkEntry {H : Type} : Lit × DataW H → Nat
  | (.string bytes, d) => bytes.length + uptoBulk d + 1
  | (_, d) => uptoBulk d + 1
 end
def uptoSmall : (H : Type) → List (DataW H) → Bool := fun _ ds => decide (uptoBulkAll ds ≤ 1048576)
def OpenSpec.upto (s : _root_.Go.ChangeSpec) : _root_.Go.OpenSpec := { _root_.Go.OpenSpec.ofChange s with cond := some uptoSmall }

/-- 'evenhandlaw03.TreeTells', WHERE WHAT IT READS IS OF BULK AT MOST 1048576: true; the input reads as it did. -/
def treeTellsUptoRow : OpenClaim := { program := "ytplckmpamekloaadoor", sum := "63705f7ab7908a929fffa1db42ffb2e10badc15dbaf8d1ad0ffa9dfd9681c06e", func := "evenhand/evenhandlaw03.TreeTells", spec := "treeTells", unfollowed := true, recurses := true, named := ["evenhand/tree.stmts", "evenhand/tree.exprs"], loops := true, apart := false, laid := [("evenhand/tree.exprs", laid_evenhand_tree_exprs), ("evenhand/tree.stmts", laid_evenhand_tree_stmts)], narrowed := true }
def TreeTellsUptoSaid : Prop := treeTellsUptoRow.holds Tryd.pinned (OpenSpec.upto treeTellsSpec)

/-- 'evenhandlaw03.TreeParts', WHERE WHAT IT READS IS OF BULK AT MOST 1048576: true; the input reads as it did. -/
def treePartsUptoRow : OpenClaim := { program := "ytplckmpamekloaadoor", sum := "63705f7ab7908a929fffa1db42ffb2e10badc15dbaf8d1ad0ffa9dfd9681c06e", func := "evenhand/evenhandlaw03.TreeParts", spec := "treeParts", unfollowed := true, recurses := true, named := ["evenhand/tree.stmts", "evenhand/tree.exprs"], loops := true, apart := false, laid := [("evenhand/tree.exprs", laid_evenhand_tree_exprs), ("evenhand/tree.stmts", laid_evenhand_tree_stmts)], narrowed := true }
def TreePartsUptoSaid : Prop := treePartsUptoRow.holds Tryd.pinned (OpenSpec.upto treePartsSpec)

/-- 'evenhandlaw03.TreeDeeper', WHERE WHAT IT READS IS OF BULK AT MOST 1048576: true; the input reads as it did. -/
def treeDeeperUptoRow : OpenClaim := { program := "ytplckmpamekloaadoor", sum := "63705f7ab7908a929fffa1db42ffb2e10badc15dbaf8d1ad0ffa9dfd9681c06e", func := "evenhand/evenhandlaw03.TreeDeeper", spec := "treeDeeper", unfollowed := true, recurses := true, named := ["evenhand/tree.stmts", "evenhand/tree.exprs"], loops := true, apart := false, laid := [("evenhand/tree.exprs", laid_evenhand_tree_exprs), ("evenhand/tree.stmts", laid_evenhand_tree_stmts)], narrowed := true }
def TreeDeeperUptoSaid : Prop := treeDeeperUptoRow.holds Tryd.pinned (OpenSpec.upto treeDeeperSpec)

/-- 'evenhandlaw03.TreeEqual', WHERE WHAT IT READS IS OF BULK AT MOST 1048576: true; the input reads as it did. -/
def treeEqualUptoRow : OpenClaim := { program := "ytplckmpamekloaadoor", sum := "63705f7ab7908a929fffa1db42ffb2e10badc15dbaf8d1ad0ffa9dfd9681c06e", func := "evenhand/evenhandlaw03.TreeEqual", spec := "treeEqual", unfollowed := true, recurses := true, named := ["evenhand/tree.stmts", "evenhand/tree.exprs"], loops := true, apart := false, laid := [("evenhand/tree.exprs", laid_evenhand_tree_exprs), ("evenhand/tree.stmts", laid_evenhand_tree_stmts)], narrowed := true }
def TreeEqualUptoSaid : Prop := treeEqualUptoRow.holds Tryd.pinned (OpenSpec.upto treeEqualSpec)

/-- 'evenhandlaw03.TreeNames', WHERE WHAT IT READS IS OF BULK AT MOST 1048576: true; the input reads as it did. -/
def treeNamesUptoRow : OpenClaim := { program := "ytplckmpamekloaadoor", sum := "63705f7ab7908a929fffa1db42ffb2e10badc15dbaf8d1ad0ffa9dfd9681c06e", func := "evenhand/evenhandlaw03.TreeNames", spec := "treeNames", unfollowed := true, recurses := true, named := ["evenhand/tree.stmts", "evenhand/tree.exprs"], apart := false, laid := [("evenhand/tree.exprs", laid_evenhand_tree_exprs), ("evenhand/tree.stmts", laid_evenhand_tree_stmts)], narrowed := true }
def TreeNamesUptoSaid : Prop := treeNamesUptoRow.holds Tryd.pinned (OpenSpec.upto treeNamesSpec)

/-- 'evenhandlaw03.TreeOps', WHERE WHAT IT READS IS OF BULK AT MOST 1048576: true; the input reads as it did. -/
def treeOpsUptoRow : OpenClaim := { program := "ytplckmpamekloaadoor", sum := "63705f7ab7908a929fffa1db42ffb2e10badc15dbaf8d1ad0ffa9dfd9681c06e", func := "evenhand/evenhandlaw03.TreeOps", spec := "treeOps", unfollowed := true, recurses := true, named := ["evenhand/tree.stmts", "evenhand/tree.exprs"], apart := false, laid := [("evenhand/tree.exprs", laid_evenhand_tree_exprs), ("evenhand/tree.stmts", laid_evenhand_tree_stmts)], narrowed := true }
def TreeOpsUptoSaid : Prop := treeOpsUptoRow.holds Tryd.pinned (OpenSpec.upto treeOpsSpec)

/-- 'evenhandlaw03.TreeLimits', WHERE WHAT IT READS IS OF BULK AT MOST 1048576: true; the input reads as it did. -/
def treeLimitsUptoRow : OpenClaim := { program := "ytplckmpamekloaadoor", sum := "63705f7ab7908a929fffa1db42ffb2e10badc15dbaf8d1ad0ffa9dfd9681c06e", func := "evenhand/evenhandlaw03.TreeLimits", spec := "treeLimits", unfollowed := true, recurses := true, named := ["evenhand/tree.stmts", "evenhand/tree.exprs"], apart := false, laid := [("evenhand/tree.exprs", laid_evenhand_tree_exprs), ("evenhand/tree.stmts", laid_evenhand_tree_stmts)], narrowed := true }
def TreeLimitsUptoSaid : Prop := treeLimitsUptoRow.holds Tryd.pinned (OpenSpec.upto treeLimitsSpec)

/-- 'evenhandlaw03.TreeSame', WHERE WHAT IT READS IS OF BULK AT MOST 1048576: true; the input reads as it did. -/
def treeSameUptoRow : OpenClaim := { program := "ytplckmpamekloaadoor", sum := "63705f7ab7908a929fffa1db42ffb2e10badc15dbaf8d1ad0ffa9dfd9681c06e", func := "evenhand/evenhandlaw03.TreeSame", spec := "treeSame", unfollowed := true, recurses := true, named := ["evenhand/tree.stmts", "evenhand/tree.exprs"], loops := true, apart := false, laid := [("evenhand/tree.exprs", laid_evenhand_tree_exprs), ("evenhand/tree.stmts", laid_evenhand_tree_stmts)], narrowed := true }
def TreeSameUptoSaid : Prop := treeSameUptoRow.holds Tryd.pinned (OpenSpec.upto treeSameSpec)

end Rows
end Go.Proofs.YtplckmpamekloaaDoor
