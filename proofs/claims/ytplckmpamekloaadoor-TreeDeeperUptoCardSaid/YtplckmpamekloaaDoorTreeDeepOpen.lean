/- TreeDeeper, from what came in. -/
import Derived.Test.YtplckmpamekloaaDoorTreeDeepw
import Derived.Test.YtplckmpamekloaaDoorTreeBulk
namespace Go.Proofs.YtplckmpamekloaaDoor
open Go.RowKit Go.Sort
set_option linter.unusedVariables false

theorem deeper_walk {H : Type} {d0 d1 : DataW H} (a1 : Option Addr) (n1 k1 : Nat) (a2 : Option Addr) (n2 k2 : Nat) (p : PT) (c1 : Option Addr) (m1 j1 : Nat) (c2 : Option Addr) (m2 j2 : Nat) (q : PT) (w : World)
    (o0 : PR w (.slice a1 n1 k1) (.slice a2 n2 k2) p ∧ k1 ≤ 2199023255488 ∧ k2 ≤ 1353245080300) (o1 : PR w (.slice c1 m1 j1) (.slice c2 m2 j2) q ∧ j1 ≤ 2199023255488 ∧ j2 ≤ 1353245080300)
    (b0 : p.nodes.length ≤ Rows.uptoBulk d0) (b1 : q.nodes.length ≤ Rows.uptoBulk d1) (hbk : Rows.uptoSmall H ([d0, d1] ++ []) = true) (ht : Tab w) :
    Calls Tryd.prog 5 #[.agg #[.slice a1 n1 k1, .slice a2 n2 k2], .agg #[.slice c1 m1 j1, .slice c2 m2 j2]] w fun e w' => e = .returned (.bool true) ∧ Below w.heap.size w w' := by
  have hb : Rows.uptoBulk d0 + (Rows.uptoBulk d1 + 0) ≤ 1048576 := of_decide_eq_true hbk
  exact deeper_core a1 a2 n1 n2 k1 k2 p c1 c2 m1 m2 j1 j2 q w ht o0.1 o1.1 (by omega) (by omega)
end Go.Proofs.YtplckmpamekloaaDoor
