/- What must be in any case: shown. -/
import Derived.Test.YtplckmpamekloaaDoorTreeRight
import Derived.Test.YtplckmpamekloaaDoorTreeEqual
namespace Go.Proofs.YtplckmpamekloaaDoor
open Go.RowKit Go.Sort
set_option linter.unusedVariables false

/-- Blocks laid one behind the other. -/
def chain (w : World) (os : List Obj) : World := os.foldl (fun w o => w.alloc o) w
theorem chain_size (os : List Obj) : ∀ w : World, (chain w os).heap.size = w.heap.size + os.length := by
  induction os with
  | nil => intro w; rfl
  | cons o os ih => intro w; show (chain (w.alloc o) os).heap.size = _; rw [ih, World.size_alloc, List.length_cons]; omega
theorem chain_below (os : List Obj) : ∀ w : World, Below w.heap.size w (chain w os) := by
  induction os with
  | nil => intro w; exact Below.refl _ _
  | cons o os ih => intro w; exact ((Below.refl _ _).alloc (Nat.le_refl _) o).trans ((ih (w.alloc o)).mono (by simp))
theorem chain_at (os : List Obj) : ∀ (w : World) (j : Nat) (o : Obj), os[j]? = some o → (chain w os).heap[w.heap.size + j]? = some o := by
  induction os with
  | nil => intro w j o h; simp at h
  | cons o' os ih =>
    intro w j o h
    show (chain (w.alloc o') os).heap[w.heap.size + j]? = some o
    cases j with
    | zero =>
      simp at h; subst h
      exact ((chain_below os (w.alloc o')).block _ (by simp)).trans (World.alloc_heap_new w o')
    | succ j =>
      have := ih (w.alloc o') j o (by simpa using h)
      rw [World.size_alloc] at this
      rw [← this]; congr 1; omega
theorem cell_of_heap {W : World} {b : Nat} {cs : Array Value} {t : TypeId} {fr : Nat × Nat} (h : W.heap[b]? = some (.cells cs t fr)) (j : Nat) : W.cell? ⟨b, j, none⟩ = cs[j]? := by
  simp [World.cell?, h]

set_option maxHeartbeats 1000000 in
set_option maxRecDepth 1000000 in
theorem one_r (n : Int) (w : World) : Calls Tryd.prog 22 #[.int .i64 n] w fun e w' => e = .returned (.agg #[.int .i64 1, .int .i64 n, .string ⟨#[]⟩, .slice none 0 0]) ∧ w' = w.alloc (.cells #[.int .i64 1, .int .i64 n, .string ⟨#[]⟩, .slice none 0 0] 41) := by
  go_enter Tryd.func22, Tryd.ntmps22
  go_wp2
  refine bodyPost_ret (results_cell_row rfl _ _ w.heap.size 41 #[.int .i64 1, .int .i64 n, .string ⟨#[]⟩, .slice none 0 0] (0, 0) _ rfl (heap_alloc_new _ _) Tryd.underlying41 rfl rfl) rfl ?_
  exact ⟨rfl, rfl⟩

theorem ESl.nil (w : World) : ESl w (.slice none 0 0) [] := .mk none 0 0 0 [] (fun _ => .bool false) (fun h => absurd h (by simp)) (Nat.le_refl _) (Nat.zero_le _) (fun i h => absurd h (by simp)) (fun i h => absurd h (by simp))
theorem SSl.nil (w : World) : SSl w (.slice none 0 0) [] := .mk none 0 0 0 [] (fun _ => .bool false) (fun _ => .bool false) (fun _ => .bool false) (fun h => absurd h (by simp)) (Nat.le_refl _) (Nat.zero_le _) (fun i h => absurd h (by simp)) (fun i h => absurd h (by simp)) (fun i h => absurd h (by simp)) (fun i h => absurd h (by simp))
theorem TSl.nil (w : World) : TSl w (.slice none 0 0) [] := .mk none 0 0 0 [] (fun h => absurd h (by simp)) (Nat.le_refl _) (Nat.zero_le _) (fun i h => absurd h (by simp))
theorem FSl.nil (w : World) : FSl w (.slice none 0 0) [] := .mk none 0 0 0 [] (fun _ => .bool false) (fun _ => .bool false) (fun h => absurd h (by simp)) (Nat.le_refl _) (Nat.zero_le _) (fun i h => absurd h (by simp)) (fun i h => absurd h (by simp)) (fun i h => absurd h (by simp))
theorem PR.nil (w : World) : PR w (.slice none 0 0) (.slice none 0 0) ⟨[], []⟩ := ⟨FSl.nil w, SSl.nil w⟩
theorem one_le_max : 1 ≤ maxLen := by decide
theorem ESl.one {w : World} {b : Nat} {o n : Int} {s : ByteArray} {v : Value} {l : List ET} {t : TypeId} {fr : Nat × Nat} (h : w.heap[b]? = some (.cells #[.int .i64 o, .int .i64 n, .string s, v] t fr)) (hl : ESl w v l) : ESl w (.slice (some ⟨b, 0, none⟩) 1 1) [.mk o n s l] := by
  refine .mk (some ⟨b, 0, none⟩) b 0 1 [.mk o n s l] (fun _ => v) (fun _ => rfl) (Nat.le_refl _) one_le_max ?_ ?_
  · intro i hi
    obtain rfl : i = 0 := by simp at hi; omega
    exact ⟨cell_of_heap h 0, cell_of_heap h 1, cell_of_heap h 2, cell_of_heap h 3⟩
  · intro i hi
    obtain rfl : i = 0 := by simp at hi; omega
    exact hl
theorem SSl.one {w : World} {b : Nat} {o n : Int} {s : ByteArray} {v v1 v2 : Value} {l : List ET} {bs es : List ST} {t : TypeId} {fr : Nat × Nat} (h : w.heap[b]? = some (.cells #[.int .i64 o, .string s, .int .i64 n, v, v1, v2] t fr)) (hl : ESl w v l) (hb : SSl w v1 bs) (he : SSl w v2 es) : SSl w (.slice (some ⟨b, 0, none⟩) 1 1) [.mk o n s l bs es] := by
  refine .mk (some ⟨b, 0, none⟩) b 0 1 [.mk o n s l bs es] (fun _ => v) (fun _ => v1) (fun _ => v2) (fun _ => rfl) (Nat.le_refl _) one_le_max ?_ ?_ ?_ ?_
  · intro i hi
    obtain rfl : i = 0 := by simp at hi; omega
    exact ⟨cell_of_heap h 0, cell_of_heap h 1, cell_of_heap h 2, cell_of_heap h 3, cell_of_heap h 4, cell_of_heap h 5⟩
  all_goals
    intro i hi
    obtain rfl : i = 0 := by simp at hi; omega
    assumption
theorem FSl.one {w : World} {b : Nat} {s : ByteArray} {v v1 : Value} {l : List ByteArray} {bs : List ST} {t : TypeId} {fr : Nat × Nat} (h : w.heap[b]? = some (.cells #[.string s, v, v1] t fr)) (hl : TSl w v l) (hb : SSl w v1 bs) : FSl w (.slice (some ⟨b, 0, none⟩) 1 1) [⟨s, l, bs⟩] := by
  refine .mk (some ⟨b, 0, none⟩) b 0 1 [⟨s, l, bs⟩] (fun _ => v) (fun _ => v1) (fun _ => rfl) (Nat.le_refl _) one_le_max ?_ ?_ ?_
  · intro i hi
    obtain rfl : i = 0 := by simp at hi; omega
    exact ⟨cell_of_heap h 0, cell_of_heap h 1, cell_of_heap h 2⟩
  all_goals
    intro i hi
    obtain rfl : i = 0 := by simp at hi; omega
    assumption
theorem TSl.two {w : World} {b : Nat} {s s' : ByteArray} {t : TypeId} {fr : Nat × Nat} (h : w.heap[b]? = some (.cells #[.string s, .string s'] t fr)) : TSl w (.slice (some ⟨b, 0, none⟩) 2 2) [s, s'] := by
  refine .mk (some ⟨b, 0, none⟩) b 0 2 [s, s'] (fun _ => rfl) (Nat.le_refl _) (by decide) ?_
  intro i hi
  have : i = 0 ∨ i = 1 := by simp at hi; omega
  rcases this with rfl | rfl
  · exact cell_of_heap h 0
  · exact cell_of_heap h 1

def oneT (n : Int) : ET := .mk 1 n ⟨#[]⟩ []
def p0 : PT := ⟨[⟨⟨#[102]⟩, [⟨#[97]⟩, ⟨#[66]⟩], [.mk 9 0 ⟨#[]⟩ [oneT 1] [] []]⟩], [.mk 8 0 ⟨#[]⟩ [oneT 0] [.mk 1 0 ⟨#[120]⟩ [.mk 6 0 ⟨#[]⟩ [oneT 2]] [] []] []]⟩
def q0 : PT := ⟨[], [.mk 1 0 ⟨#[105, 102]⟩ [oneT 1] [] []]⟩
def oneO (n : Int) : Obj := .cells #[.int .i64 1, .int .i64 n, .string ⟨#[]⟩, .slice none 0 0] 41
def sl1 (b : Nat) : Value := .slice (some ⟨b, 0, none⟩) 1 1
def shownObjs (N : Nat) : List Obj := [
  .cells #[.string ⟨#[97]⟩, .string ⟨#[66]⟩] 9, oneO 1, oneO 1,
  .cells #[.int .i64 9, .string ⟨#[]⟩, .int .i64 0, sl1 (N + 2), .slice none 0 0, .slice none 0 0] 38,
  .cells #[.string ⟨#[102]⟩, .slice (some ⟨N, 0, none⟩) 2 2, sl1 (N + 3)] 35,
  oneO 0, oneO 0, oneO 2, oneO 2,
  .cells #[.int .i64 6, .int .i64 0, .string ⟨#[]⟩, sl1 (N + 8)] 41,
  .cells #[.int .i64 1, .string ⟨#[120]⟩, .int .i64 0, sl1 (N + 9), .slice none 0 0, .slice none 0 0] 38,
  .cells #[.int .i64 8, .string ⟨#[]⟩, .int .i64 0, sl1 (N + 6), sl1 (N + 10), .slice none 0 0] 38,
  .cells #[sl1 (N + 4), sl1 (N + 11)] 25,
  oneO 1, oneO 1,
  .cells #[.int .i64 1, .string ⟨#[105, 102]⟩, .int .i64 0, sl1 (N + 14), .slice none 0 0, .slice none 0 0] 38,
  .cells #[.slice none 0 0, sl1 (N + 15)] 25]
theorem shown_mem (w W : World) (hW : chain w (shownObjs w.heap.size) = W) : ∃ bf bm bq : Nat, W.cell? ⟨w.heap.size + 12, 0, none⟩ = some (sl1 bf) ∧ W.cell? ⟨w.heap.size + 12, 1, none⟩ = some (sl1 bm) ∧ W.cell? ⟨w.heap.size + 16, 0, none⟩ = some (.slice none 0 0) ∧ W.cell? ⟨w.heap.size + 16, 1, none⟩ = some (sl1 bq) ∧
    PR W (sl1 bf) (sl1 bm) p0 ∧ PR W (.slice none 0 0) (sl1 bq) q0 := by
  have c := fun j o h => hW ▸ chain_at (shownObjs w.heap.size) w j o h
  have hone : ∀ j n, (shownObjs w.heap.size)[j]? = some (oneO n) → ESl W (sl1 (w.heap.size + j)) [oneT n] := fun j n h => ESl.one (c j _ h) (ESl.nil W)
  refine ⟨w.heap.size + 4, w.heap.size + 11, w.heap.size + 15, cell_of_heap (c 12 _ rfl) 0, cell_of_heap (c 12 _ rfl) 1, cell_of_heap (c 16 _ rfl) 0, cell_of_heap (c 16 _ rfl) 1, ⟨?_, ?_⟩, FSl.nil W, ?_⟩
  · exact FSl.one (c 4 _ rfl) (TSl.two (c 0 _ rfl)) (SSl.one (c 3 _ rfl) (hone 2 1 rfl) (SSl.nil W) (SSl.nil W))
  · exact SSl.one (c 11 _ rfl) (hone 6 0 rfl) (SSl.one (c 10 _ rfl) (ESl.one (c 9 _ rfl) (hone 8 2 rfl)) (SSl.nil W) (SSl.nil W)) (SSl.nil W)
  · exact SSl.one (c 15 _ rfl) (hone 14 1 rfl) (SSl.nil W) (SSl.nil W)
theorem p0_right : p0.right = 0 := by decide +kernel
theorem p0_depth : p0.depth = 4 := by decide +kernel
theorem p0_size : p0.size = 7 := by decide +kernel
theorem q0_right : q0.right = 1 := by decide +kernel
theorem nil_right : PT.right ⟨[], []⟩ = 0 := by decide +kernel
theorem p0_p0 : PT.same p0 p0 = true := by decide +kernel
theorem p0_q0 : PT.same p0 q0 = false := by decide +kernel
theorem name1 : nameB ⟨#[97, 95, 49]⟩ = true := by decide +kernel
theorem name2 : nameB ⟨#[99, 108, 111, 99, 107]⟩ = false := by decide +kernel
theorem name3 : nameB ⟨#[95, 97]⟩ = false := by decide +kernel
theorem name4 : nameB ⟨#[]⟩ = false := by decide +kernel

end Go.Proofs.YtplckmpamekloaaDoor
