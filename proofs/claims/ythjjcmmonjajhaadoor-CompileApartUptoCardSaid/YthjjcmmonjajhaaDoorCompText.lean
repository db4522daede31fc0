/- Text of what was compiled; two. -/
import Derived.Test.YthjjcmmonjajhaaDoorCompile
import Derived.Test.YthjjcmmonjajhaaDoorCodeText
namespace Go.Proofs.YthjjcmmonjajhaaDoor
open Go.RowKit Go.Sort
set_option linter.unusedVariables false

def ins3 (i : VI) : C.Ins3 := (i.op, i.a, i.n)
def textB (l : List VI) : ByteArray := ⟨(C.lines (l.map ins3) l.length).toArray⟩
def InsRg (l : List VI) : Prop := ∀ i ∈ l, C.R i.op ∧ C.R i.a ∧ C.R i.n
theorem text_v (a : Option Addr) (n cap : Nat) (l : List VI) (hl : l.length ≤ 5000000) (hr : InsRg l) (s : ByteArray) (hs : textB l = s) (w : World) (h : ISl w (.slice a n cap) l) (ht : C.Tab w) :
    Calls Tryd.prog 9 #[.slice a n cap] w fun e w' => e = .returned (.string s) ∧ Below w.heap.size w w' := by
  generalize hv : Value.slice a n cap = v at h
  cases h with
  | mk a' b off cap' l' ha hc hm hsm hcell =>
    cases hv
    by_cases h0 : l.length = 0
    · obtain rfl : l = [] := List.eq_nil_of_length_eq_zero h0
      subst hs
      exact C.text_nil cap w a
    · obtain rfl := ha (by omega)
      have hat : ∀ i, i < l.length → C.insAt (l.map ins3) i = ins3 (l.getD i default) := fun i hi => by
        unfold C.insAt
        rw [List.getD_eq_getElem?_getD, List.getElem?_map, List.getElem?_eq_getElem hi, List.getD_eq_getElem?_getD, List.getElem?_eq_getElem hi]; rfl
      have key := C.text_r b off cap (l.map ins3) (by rw [List.length_map]; exact hl) (fun x hx => by
        obtain ⟨i, hi, rfl⟩ := List.mem_map.1 hx
        exact hr i hi) (by rw [List.length_map]; exact hc) s (by rw [List.length_map]; exact hs) w ⟨lt_of_cell (hcell 0 (by omega)).1, fun i hi => by
          rw [List.length_map] at hi
          rw [hat i hi]
          exact hcell i hi⟩ ht
      rwa [List.length_map] at key
theorem VSl.at9 {w : World} {a : Option Addr} {n cap : Nat} {l : List VF} (h : VSl w (.slice a n cap) l) (k : Nat) (hk : k < n) : n = l.length ∧ ∃ b off la lc, a = some ⟨b, off, none⟩ ∧ (w.cell? ⟨b, off + k * 5, none⟩ = some (.string (l.getD k default).name) ∧ w.cell? ⟨b, off + k * 5 + 1, none⟩ = some (.int .i64 (l.getD k default).params) ∧ w.cell? ⟨b, off + k * 5 + 2, none⟩ = some (.int .i64 (l.getD k default).vars) ∧ w.cell? ⟨b, off + k * 5 + 3, none⟩ = some (.int .i64 (l.getD k default).arrays) ∧ w.cell? ⟨b, off + k * 5 + 4, none⟩ = some (.slice la (l.getD k default).l.length lc)) ∧ ISl w (.slice la (l.getD k default).l.length lc) (l.getD k default).l := by
  generalize hv : Value.slice a n cap = v at h
  cases h with
  | mk a' b off cap' l' f ha hc hm hcell h1 =>
    cases hv
    have hi := h1 k hk
    obtain ⟨la, lc, e⟩ := hi.shape
    obtain ⟨c0, c1, c2, c3, c4⟩ := hcell k hk
    rw [e] at c4 hi
    exact ⟨rfl, b, off, la, lc, ha (by omega), ⟨c0, c1, c2, c3, c4⟩, hi⟩
theorem ESl.nil9 (w : World) : ESl w (.slice none 0 0) [] := .mk none 0 0 0 [] (fun _ => .bool false) (fun h => absurd h (by simp)) (Nat.le_refl _) (Nat.zero_le _) (fun i h => absurd h (by simp)) (fun i h => absurd h (by simp))
theorem SSl.nil9 (w : World) : SSl w (.slice none 0 0) [] := .mk none 0 0 0 [] (fun _ => .bool false) (fun _ => .bool false) (fun _ => .bool false) (fun h => absurd h (by simp)) (Nat.le_refl _) (Nat.zero_le _) (fun i h => absurd h (by simp)) (fun i h => absurd h (by simp)) (fun i h => absurd h (by simp)) (fun i h => absurd h (by simp))
theorem FSl.nil9 (w : World) : FSl w (.slice none 0 0) [] := .mk none 0 0 0 [] (fun _ => .bool false) (fun _ => .bool false) (fun h => absurd h (by simp)) (Nat.le_refl _) (Nat.zero_le _) (fun i h => absurd h (by simp)) (fun i h => absurd h (by simp)) (fun i h => absurd h (by simp))
/-- One expression, one statement, in a block of their own. -/
theorem esl_one {w : World} {b : Nat} {o n : Int} {s : ByteArray} {v : Value} {ps : List ET} {t : TypeId} (hb : w.heap[b]? = some (.cells #[.int .i64 o, .int .i64 n, .string s, v] t (0, 0))) (hp : ESl w v ps) : ESl w (.slice (some ⟨b, 0, none⟩) 1 1) [.mk o n s ps] := by
  refine ESl.mk (some ⟨b, 0, none⟩) b 0 1 [.mk o n s ps] (fun _ => v) (fun _ => rfl) (Nat.le_refl _) (by unfold maxLen; omega) (fun i hi => ?_) (fun i hi => ?_)
  · obtain rfl : i = 0 := by simpa using hi
    exact ⟨cell_of_heap hb 0, cell_of_heap hb 1, cell_of_heap hb 2, cell_of_heap hb 3⟩
  · obtain rfl : i = 0 := by simpa using hi
    exact hp
theorem ssl_one {w : World} {b : Nat} {o n : Int} {s : ByteArray} {v x y : Value} {ps : List ET} {bs es : List ST} {t : TypeId} (hb : w.heap[b]? = some (.cells #[.int .i64 o, .string s, .int .i64 n, v, x, y] t (0, 0))) (hp : ESl w v ps) (hx : SSl w x bs) (hy : SSl w y es) : SSl w (.slice (some ⟨b, 0, none⟩) 1 1) [.mk o n s ps bs es] := by
  refine SSl.mk (some ⟨b, 0, none⟩) b 0 1 [.mk o n s ps bs es] (fun _ => v) (fun _ => x) (fun _ => y) (fun _ => rfl) (Nat.le_refl _) (by unfold maxLen; omega) (fun i hi => ?_) (fun i hi => ?_) (fun i hi => ?_) (fun i hi => ?_)
  · obtain rfl : i = 0 := by simpa using hi
    exact ⟨cell_of_heap hb 0, cell_of_heap hb 1, cell_of_heap hb 2, cell_of_heap hb 3, cell_of_heap hb 4, cell_of_heap hb 5⟩
  all_goals
    obtain rfl : i = 0 := by simpa using hi
    assumption

set_option maxHeartbeats 2000000 in
set_option maxRecDepth 1000000 in
theorem two_r (w : World) :
    Calls Tryd.prog 12 #[] w fun e w' => ∃ b, e = .returned (.agg #[.int .i64 8, .int .i64 0, .string ⟨#[]⟩, .slice (some ⟨b, 0, none⟩) 2 2]) ∧ Below w.heap.size w w' ∧ ESl w' (.slice (some ⟨b, 0, none⟩) 2 2) [.mk 1 1 ByteArray.empty [], .mk 1 2 ByteArray.empty []] := by
  go_enter Tryd.func12, Tryd.ntmps12
  go_wp2
  refine bodyPost_ret (results_cell_row rfl _ _ w.heap.size 51 #[.int .i64 8, .int .i64 0, .string ⟨#[]⟩, .slice (some ⟨w.heap.size + 1, 0, none⟩) 2 2] (0, 0) _ rfl (heap_alloc2_old _ _ _) Tryd.underlying51 rfl rfl) rfl ?_
  refine ⟨_, rfl, ((Below.refl _ _).alloc (Nat.le_refl _) _).alloc (by simp) _, ?_⟩
  have hn := heap_alloc_new (w.alloc (.cells #[.int .i64 8, .int .i64 0, .string ⟨#[]⟩, .slice (some ⟨w.heap.size + 1, 0, none⟩) 2 2] 51)) (.cells #[.int .i64 1, .int .i64 1, .string ⟨#[]⟩, .slice none 0 0, .int .i64 1, .int .i64 2, .string ⟨#[]⟩, .slice none 0 0] 51)
  rw [World.size_alloc] at hn
  refine ESl.mk (some ⟨w.heap.size + 1, 0, none⟩) (w.heap.size + 1) 0 2 [.mk 1 1 ByteArray.empty [], .mk 1 2 ByteArray.empty []] (fun _ => .slice none 0 0) (fun _ => rfl) (Nat.le_refl _) (by unfold maxLen; omega) (fun i hi => ?_) (fun i hi => ?_)
  · have hi' : i = 0 ∨ i = 1 := by simp at hi; omega
    rcases hi' with rfl | rfl
    · exact ⟨cell_of_heap hn 0, cell_of_heap hn 1, cell_of_heap hn 2, cell_of_heap hn 3⟩
    · exact ⟨cell_of_heap hn 4, cell_of_heap hn 5, cell_of_heap hn 6, cell_of_heap hn 7⟩
  · have hi' : i = 0 ∨ i = 1 := by simp at hi; omega
    rcases hi' with rfl | rfl <;> exact ESl.nil9 _
end Go.Proofs.YthjjcmmonjajhaaDoor
