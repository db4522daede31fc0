/- Small laws on rows (twins of lemmas of TreeTwin3, TreeOps and TreeOwn, so that the texts of TreeTells do not wait for TreeOps). -/
import Derived.Test.YtplckmpamekloaaDoorTreeFlow
import Derived.Test.YtplckmpamekloaaDoorTreeOpen
import Derived.Laws.AppendOwn
namespace Go.Proofs.YtplckmpamekloaaDoor
open Go.RowKit Go.Sort
set_option linter.unusedVariables false
theorem cell_below {w1 W : World} {b o : Nat} {v : Value} (h : Hid (Below w1.heap.size w1 W)) (hc : w1.cell? ⟨b, o, none⟩ = some v) : W.cell? ⟨b, o, none⟩ = some v := (h.out.cell (p := ⟨b, o, none⟩) (lt_of_cell hc)).trans hc
theorem own_cell {w : World} {base n : Nat} {e : TypeId} {size : Nat} {g cap : Nat} {xs : List Value} (h : w.ownsRow base e size (.slice (some ⟨g, 0, none⟩) n cap) n xs) (i : Nat) (hi : i < n * size) : w.cell? ⟨g, i, none⟩ = xs[i]? := by
  obtain ⟨hl, ⟨h0, _⟩ | ⟨g', cap', cur, hv, _, hg, hn, hm, hc, ht⟩⟩ := h
  · cases h0
  · cases hv
    simp [World.cell?, hg]
    rw [← ht, List.getElem?_take, if_pos hi]; simp
theorem own_empty (w : World) (base : Nat) (e : TypeId) (size : Nat) (hb : base ≤ w.heap.size) : (w.alloc (.cells #[] e)).ownsRow base e size (.slice (some ⟨w.heap.size, 0, none⟩) 0 0) 0 [] :=
  ⟨by simp, .inr ⟨w.heap.size, 0, #[], rfl, hb, World.alloc_heap_new w _, Nat.le_refl _, Nat.zero_le _, by simp, by simp⟩⟩
theorem grown_of_below {w w' : World} (h : Below w.heap.size w w') : w.grownBy w' none := ⟨h.os, h.tape, h.output, h.size, fun k hk _ => h.block k hk⟩
theorem own_hold {w w' : World} {base : Nat} {e : TypeId} {size n : Nat} {v : Value} {xs : List Value} (h : w.ownsRow base e size v n xs) (hb : Below w.heap.size w w') : w'.ownsRow base e size v n xs :=
  h.kept (grown_of_below hb) (by cases v.ownBlock <;> simp)
theorem ownsRow_succ' {W : World} {base : Nat} {e : TypeId} {size : Nat} {v : Value} {k : Nat} {xs : List Value} (h : W.ownsRow base e size v (k + 1) xs) : ∃ g cap, v = .slice (some ⟨g, 0, none⟩) (k + 1) cap := by
  obtain ⟨_, ⟨_, h0⟩ | ⟨g, cap, _, rfl, _⟩⟩ := h
  · omega
  · exact ⟨g, cap, rfl⟩
end Go.Proofs.YtplckmpamekloaaDoor
