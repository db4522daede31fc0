/- CompileEnds, from what came in. -/
import Derived.Test.YthjjcmmonjajhaaDoorEndsWalk
import Derived.Test.YthjjcmmonjajhaaDoorTreeBulk
namespace Go.Proofs.YthjjcmmonjajhaaDoor
open Go.RowKit Go.Sort
set_option linter.unusedVariables false

theorem ends_walk {H : Type} {d0 : DataW H} (a1 : Option Addr) (n1 k1 : Nat) (a2 : Option Addr) (n2 k2 : Nat) (p : PT) (w : World)
    (o0 : PR w (.slice a1 n1 k1) (.slice a2 n2 k2) p ∧ k1 ≤ 2199023255488 ∧ k2 ≤ 1353245080300)
    (b0 : p.nodes.length ≤ Rows.uptoBulk d0) (hbk : Rows.uptoSmall H ([d0] ++ []) = true) (ht : ∃ mb mn, TabAll w mb mn) :
    Calls Tryd.prog 4 #[.agg #[.slice a1 n1 k1, .slice a2 n2 k2]] w fun e w' => e = .returned (.bool true) ∧ Below w.heap.size w w' := by
  have hb : Rows.uptoBulk d0 + 0 ≤ 1048576 := of_decide_eq_true hbk
  obtain ⟨mb, mn, h⟩ := ht
  exact ends_core a1 a2 n1 n2 k1 k2 p mb mn w h o0.1 (by omega)
end Go.Proofs.YthjjcmmonjajhaaDoor
