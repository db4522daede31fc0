/- Instructions and functions that the laws write down; of. -/
import Derived.Test.YthfgagljplabpaaDoorVerifyCode
import Derived.Laws.AppendOwn
namespace Go.Proofs.YthfgagljplabpaaDoor.V
open Go.RowKit Go.Sort
set_option linter.unusedVariables false

def insC (i : VI) : List Value := [.int .i64 i.op, .int .i64 i.a, .int .i64 i.n]
def insR (l : List VI) : List Value := l.flatMap insC
theorem insR_append (l r : List VI) : insR (l ++ r) = insR l ++ insR r := by simp [insR]
theorem insR_length (l : List VI) : (insR l).length = l.length * 3 := by
  induction l with
  | nil => rfl
  | cons x l ih => simp [insR] at ih ⊢; rw [ih]; simp [insC]; omega
theorem insR_at (l : List VI) (i j : Nat) (hi : i < l.length) (hj : j < 3) : (insR l)[i * 3 + j]? = (insC (l.getD i default))[j]? := by
  induction l generalizing i with
  | nil => simp at hi
  | cons x l ih =>
    have e : insR (x :: l) = insC x ++ insR l := by simp [insR]
    rw [e]
    cases i with
    | zero => rw [List.getElem?_append_left (by show _ < 3; omega)]; simp
    | succ i =>
      rw [List.getElem?_append_right (by show 3 ≤ _; omega)]
      have : (i + 1) * 3 + j - (insC x).length = i * 3 + j := by show (i + 1) * 3 + j - 3 = _; omega
      rw [this, ih i (by simpa using hi)]; simp
theorem isl_of {w : World} {b cap : Nat} {l : List VI} (hc : l.length ≤ cap) (hm : cap ≤ maxLen) (hs : l.length ≤ 17592186044416) (h : ∀ j, j < l.length * 3 → w.cell? ⟨b, j, none⟩ = (insR l)[j]?) : ISl w (.slice (some ⟨b, 0, none⟩) l.length cap) l := by
  refine .mk _ b 0 cap l (fun _ => rfl) hc hm hs (fun i hi => ?_)
  simp only [Nat.zero_add]
  exact ⟨(h (i * 3) (by omega)).trans (insR_at l i 0 hi (by omega)), (h (i * 3 + 1) (by omega)).trans (insR_at l i 1 hi (by omega)), (h (i * 3 + 2) (by omega)).trans (insR_at l i 2 hi (by omega))⟩
theorem isl_new (w : World) (l : List VI) (t : TypeId) (hs : l.length ≤ 17592186044416) : ISl (w.alloc (.cells (insR l).toArray t)) (.slice (some ⟨w.heap.size, 0, none⟩) l.length l.length) l :=
  isl_of (Nat.le_refl _) (by unfold maxLen; omega) hs (fun j hj => by rw [cell_of_heap (heap_alloc_new w _)]; simp)
theorem ISl.alloc {w : World} {v : Value} {l : List VI} (h : ISl w v l) (o : Obj) : ISl (w.alloc o) v l := h.stay ((Below.refl _ _).alloc (Nat.le_refl _) _)
theorem ISl.nil (w : World) : ISl w (.slice none 0 0) [] := .mk none 0 0 0 [] (fun h => absurd h (by simp)) (Nat.le_refl _) (Nat.zero_le _) (Nat.zero_le _) (fun i hi => absurd hi (by simp))
theorem own_cell {w : World} {base n : Nat} {e : TypeId} {size : Nat} {g cap : Nat} {xs : List Value} (h : w.ownsRow base e size (.slice (some ⟨g, 0, none⟩) n cap) n xs) (i : Nat) (hi : i < n * size) : w.cell? ⟨g, i, none⟩ = xs[i]? := by
  obtain ⟨hl, ⟨h0, _⟩ | ⟨g', cap', cur, hv, _, hg, hn, hm, hc, ht⟩⟩ := h
  · cases h0
  · cases hv
    simp [World.cell?, hg]
    rw [← ht, List.getElem?_take, if_pos hi]; simp
theorem own_isl {w : World} {base : Nat} {e : TypeId} {v : Value} {l : List VI} (hs : l.length ≤ 17592186044416) (h : w.ownsRow base e 3 v l.length (insR l)) : ISl w v l := by
  have h' := h
  obtain ⟨hl, ⟨rfl, h0⟩ | ⟨g, cap, cur, rfl, _, hg, hn, hm, hc, ht⟩⟩ := h
  · obtain rfl : l = [] := List.eq_nil_of_length_eq_zero (by omega)
    exact ISl.nil w
  · exact isl_of (by omega) hm hs (fun j hj => own_cell h' j hj)
/-- Functions of code written down: one. -/
theorem vsl_one {w : World} {b : Nat} {f : VF} {lv : Value} (hl : ISl w lv f.l) (h : ∀ j, j < 5 → w.cell? ⟨b, j, none⟩ = ([.string f.name, .int .i64 f.params, .int .i64 f.vars, .int .i64 f.arrays, lv] : List Value)[j]?) : VSl w (.slice (some ⟨b, 0, none⟩) 1 1) [f] := by
  refine VSl.mk (some ⟨b, 0, none⟩) b 0 1 [f] (fun _ => lv) (fun _ => rfl) (Nat.le_refl _) (by unfold maxLen; omega) (fun i hi => ?_) (fun i hi => ?_)
  · obtain rfl : i = 0 := by simpa using hi
    exact ⟨h 0 (by omega), h 1 (by omega), h 2 (by omega), h 3 (by omega), h 4 (by omega)⟩
  · obtain rfl : i = 0 := by simpa using hi
    exact hl
theorem VSl.nil (w : World) : VSl w (.slice none 0 0) [] := .mk none 0 0 0 [] (fun _ => .nilIface) (fun h => absurd h (by simp)) (Nat.le_refl _) (Nat.zero_le _) (fun i hi => absurd hi (by simp)) (fun i hi => absurd hi (by simp))

set_option maxHeartbeats 1000000 in
set_option maxRecDepth 1000000 in
theorem of1_r (a : Option Addr) (n cap : Nat) (l : List VI) (w : World) (hl : ISl w (.slice a n cap) l) :
    Calls Tryd.prog 11 #[.slice a n cap] w fun e w' => ∃ b, e = .returned (.agg #[.slice (some ⟨b, 0, none⟩) 1 1]) ∧ Below w.heap.size w w' ∧ VSl w' (.slice (some ⟨b, 0, none⟩) 1 1) [⟨ByteArray.empty, 0, 2, 1, l⟩] := by
  have HL := Lib.hid hl
  clear hl
  go_enter Tryd.func11, Tryd.ntmps11
  go_wp2
  refine bodyPost_ret (results_cell_row rfl _ _ w.heap.size 30 #[.slice (some ⟨w.heap.size + 1, 0, none⟩) 1 1] (0, 0) _ rfl (heap_alloc2_old _ _ _) Tryd.underlying30 rfl rfl) rfl ?_
  refine ⟨_, rfl, ((Below.refl _ _).alloc (Nat.le_refl _) _).alloc (by simp) _, ?_⟩
  refine vsl_one ((HL.out.alloc _).alloc _) (fun j hj => ?_)
  have hn := heap_alloc_new (w.alloc (.cells #[.slice (some ⟨w.heap.size + 1, 0, none⟩) 1 1] 30)) (.cells #[.string ⟨#[]⟩, .int .i64 0, .int .i64 2, .int .i64 1, .slice a n cap] 27)
  rw [World.size_alloc] at hn
  rw [cell_of_heap hn, List.getElem?_toArray]
  rfl
theorem code_v (fs : List VF) (a1 : Option Addr) (n1 c1 : Nat) (w : World) (ht : Tab w) (hgs : VSl w (.slice a1 n1 c1) fs) (v : Int) (hv : (if codeV fs then (0 : Int) else 6) = v) :
    Calls Tryd.prog 8 #[.agg #[.slice a1 n1 c1]] w fun e w' => e = .returned (.int .i64 v) ∧ Below w.heap.size w w' :=
  hv ▸ code_r fs a1 n1 c1 w ht hgs _ rfl
end Go.Proofs.YthfgagljplabpaaDoor.V
