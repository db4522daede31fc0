/- What every walk of the tree layer uses. -/
import Derived.Test.YthjjcmmonjajhaaDoorProg
import Derived.WalkKit
import Derived.WalkSpells
import Derived.WalkLawsBesides
import Derived.Deep.RegionWith
import Derived.Deep.Cut
import Derived.Deep.CutRange
import Derived.Deep.DeepCutAuto
import Derived.Deep.RegionHeld3
import Derived.Lib.SmallJoins
import Derived.Lib.Hide
import Derived.Laws.BytesArg
namespace Go.Proofs.YthjjcmmonjajhaaDoor
open Go.RowKit Go.Sort
set_option linter.unusedVariables false
theorem hb_start (w : World) : Hid (Below w.heap.size w w) := Below.refl _ _
theorem hb_step {w0 w w' : World} (h : Hid (Below w0.heap.size w0 w)) (h' : Below w.heap.size w w') : Hid (Below w0.heap.size w0 w') :=
  Below.trans h.out (h'.mono h.out.size)
theorem hb_alloc {w0 w : World} (h : Hid (Below w0.heap.size w0 w)) (o : Obj) : Hid (Below w0.heap.size w0 (w.alloc o)) := Below.alloc h.out h.out.size o
theorem hb_drew {w0 w : World} (h : Hid (Below w0.heap.size w0 w)) : Hid (Below w0.heap.size w0 w.drew) := Below.drew h.out
theorem lt_of_cell {w : World} {b o : Nat} {v : Value} (h : w.cell? ⟨b, o, none⟩ = some v) : b < w.heap.size := by
  rcases Nat.lt_or_ge b w.heap.size with h' | h'
  · exact h'
  · simp [World.cell?, Array.getElem?_eq_none h'] at h
theorem lt_of_heap {w : World} {b : Nat} {o : Obj} (h : w.heap[b]? = some o) : b < w.heap.size := (Array.getElem?_eq_some_iff.1 h).1
end Go.Proofs.YthjjcmmonjajhaaDoor
