/- Rows of one thing over and over; chains: for TreeLimits. -/
import Derived.Test.YtplckmpamekloaaDoorTreeOps
namespace Go.Proofs.YtplckmpamekloaaDoor
open Go.RowKit Go.Sort
set_option linter.unusedVariables false

def reps (C : List Value) (k : Nat) : List Value := (List.replicate k C).flatten
theorem reps_next (C : List Value) (k : Nat) : reps C k ++ C = reps C (k + 1) := by
  unfold reps; rw [List.replicate_succ', List.flatten_append]; simp
theorem reps_at (C : List Value) (c : Nat) (hC : C.length = c) (k i j : Nat) (hi : i < k) (hj : j < c) : (reps C k)[i * c + j]? = C[j]? := by
  induction k generalizing i with
  | zero => omega
  | succ k ih =>
    have e : reps C (k + 1) = C ++ reps C k := by unfold reps; rw [List.replicate_succ]; rfl
    rw [e]
    cases i with
    | zero => rw [List.getElem?_append_left (by omega)]; congr 1; omega
    | succ i =>
      have h1 : (i + 1) * c = i * c + c := Nat.succ_mul i c
      rw [List.getElem?_append_right (by omega)]
      have : (i + 1) * c + j - C.length = i * c + j := by omega
      rw [this]; exact ih i (by omega)
theorem own_ts {w : World} {base k : Nat} {v : Value} {s : ByteArray} {e : TypeId} (h : w.ownsRow base e 1 v k (reps [.string s] k)) : TSl w v (List.replicate k s) := by
  have h' := h
  obtain ⟨hl, ⟨rfl, rfl⟩ | ⟨g, cap, cur, rfl, _, hg, hn, hm, hc, ht⟩⟩ := h
  · exact TSl.nil w
  · have c := fun i hi => own_cell h' i hi
    have hlen : (List.replicate k s).length = k := by simp
    have hget : ∀ i, i < k → (List.replicate k s).getD i ByteArray.empty = s := fun i hi => by simp [List.getD, hi]
    have := TSl.mk (w := w) (some ⟨g, 0, none⟩) g 0 cap (List.replicate k s) (fun _ => rfl) (by omega) hm
      (fun i hi => by
        rw [hlen] at hi; rw [hget i hi, Nat.zero_add, c i (by omega)]
        have := reps_at [.string s] 1 rfl k i 0 hi (by omega)
        simpa using this)
    rwa [hlen] at this
theorem own_fs {w : World} {base k : Nat} {v pv : Value} {s : ByteArray} {ps : List ByteArray} {e : TypeId} (h : w.ownsRow base e 3 v k (reps [.string s, pv, .slice none 0 0] k)) (hp : TSl w pv ps) : FSl w v (List.replicate k ⟨s, ps, []⟩) := by
  have h' := h
  obtain ⟨hl, ⟨rfl, rfl⟩ | ⟨g, cap, cur, rfl, _, hg, hn, hm, hc, ht⟩⟩ := h
  · exact FSl.nil w
  · have c := fun i hi => own_cell h' i hi
    have hlen : (List.replicate k (⟨s, ps, []⟩ : FT)).length = k := by simp
    have hget : ∀ i, i < k → (List.replicate k (⟨s, ps, []⟩ : FT)).getD i default = ⟨s, ps, []⟩ := fun i hi => by simp [List.getD, hi]
    have := FSl.mk (w := w) (some ⟨g, 0, none⟩) g 0 cap (List.replicate k (⟨s, ps, []⟩ : FT)) (fun _ => pv) (fun _ => .slice none 0 0) (fun _ => rfl) (by omega) hm
      (fun i hi => by
        rw [hlen] at hi; rw [hget i hi]
        refine ⟨?_, ?_, ?_⟩
        · rw [Nat.zero_add, c (i * 3) (by omega)]; exact reps_at [.string s, pv, .slice none 0 0] 3 rfl k i 0 hi (by omega)
        · rw [Nat.zero_add, c (i * 3 + 1) (by omega)]; exact reps_at [.string s, pv, .slice none 0 0] 3 rfl k i 1 hi (by omega)
        · rw [Nat.zero_add, c (i * 3 + 2) (by omega)]; exact reps_at [.string s, pv, .slice none 0 0] 3 rfl k i 2 hi (by omega))
      (fun i hi => by rw [hlen] at hi; rw [hget i hi]; exact hp) (fun i hi => by rw [hlen] at hi; rw [hget i hi]; exact SSl.nil w)
    rwa [hlen] at this
theorem own_stay {w w' : World} {base n : Nat} {e : TypeId} {size : Nat} {v : Value} {xs : List Value} (h : w.ownsRow base e size v n xs) (hb : Below w.heap.size w w') : w'.ownsRow base e size v n xs := by
  obtain ⟨hl, ⟨rfl, rfl⟩ | ⟨g, cap, cur, rfl, h1, hg, h2⟩⟩ := h
  · exact ⟨hl, .inl ⟨rfl, rfl⟩⟩
  · exact ⟨hl, .inr ⟨g, cap, cur, rfl, h1, (hb.block g (Array.getElem?_eq_some_iff.1 hg).1).trans hg, h2⟩⟩

/-- A chain of Nots round a number. -/
def chainT : Nat → ET
  | 0 => oneT 1
  | j + 1 => .mk 7 0 ⟨#[]⟩ [chainT j]
/-- A slice of expressions that does not hang on the blocks A and B. -/
def Apart (A B : Nat) (w : World) (v : Value) (l : List ET) : Prop := ∀ W : World, (∀ k o u, k ≠ A → k ≠ B → w.cell? ⟨k, o, none⟩ = some u → W.cell? ⟨k, o, none⟩ = some u) → ESl W v l
theorem apart_nil (A B : Nat) (w : World) : Apart A B w (.slice none 0 0) [] := fun W _ => ESl.nil W
theorem Apart.now {A B : Nat} {w : World} {v : Value} {l : List ET} (h : Apart A B w v l) : ESl w v l := h w (fun _ _ _ _ _ h => h)
theorem Apart.next {A B : Nat} {w W : World} {v : Value} {l : List ET} (h : Apart A B w v l) (hk : ∀ k o u, k ≠ A → k ≠ B → w.cell? ⟨k, o, none⟩ = some u → W.cell? ⟨k, o, none⟩ = some u) : Apart A B W v l := fun W' h' => h W' (fun k o u ha hb hc => h' k o u ha hb (hk k o u ha hb hc))
theorem ESl.one_cells {w : World} {b : Nat} {o n : Int} {s : ByteArray} {v : Value} {l : List ET} (h0 : w.cell? ⟨b, 0, none⟩ = some (.int .i64 o)) (h1 : w.cell? ⟨b, 1, none⟩ = some (.int .i64 n)) (h2 : w.cell? ⟨b, 2, none⟩ = some (.string s)) (h3 : w.cell? ⟨b, 3, none⟩ = some v) (hl : ESl w v l) : ESl w (.slice (some ⟨b, 0, none⟩) 1 1) [.mk o n s l] := by
  refine .mk (some ⟨b, 0, none⟩) b 0 1 [.mk o n s l] (fun _ => v) (fun _ => rfl) (Nat.le_refl _) one_le_max ?_ ?_
  · intro i hi
    obtain rfl : i = 0 := by simp at hi; omega
    exact ⟨h0, h1, h2, h3⟩
  · intro i hi
    obtain rfl : i = 0 := by simp at hi; omega
    exact hl
theorem Apart.one {A B : Nat} {w : World} {b : Nat} {o n : Int} {s : ByteArray} {v : Value} {l : List ET} {t : TypeId} {fr : Nat × Nat} (h : w.heap[b]? = some (.cells #[.int .i64 o, .int .i64 n, .string s, v] t fr)) (ha : b ≠ A) (hb : b ≠ B) (hl : Apart A B w v l) : Apart A B w (.slice (some ⟨b, 0, none⟩) 1 1) [.mk o n s l] := fun W hk =>
  ESl.one_cells (hk _ _ _ ha hb (cell_of_heap h 0)) (hk _ _ _ ha hb (cell_of_heap h 1)) (hk _ _ _ ha hb (cell_of_heap h 2)) (hk _ _ _ ha hb (cell_of_heap h 3)) (hl W hk)
theorem chain_eq (j : Nat) : chainT j = .mk (chainT j).op (chainT j).num (chainT j).name (chainT j).parts := by cases j <;> rfl
def limP (nf np j : Nat) : PT := ⟨List.replicate nf ⟨⟨#[102]⟩, List.replicate np ⟨#[112]⟩, []⟩, [.mk 6 0 ⟨#[]⟩ [chainT j] [] []]⟩
theorem fnodes_rep (nf : Nat) (s : ByteArray) (ps : List ByteArray) : FT.nodesL (List.replicate nf ⟨s, ps, []⟩) = [] := by
  induction nf with
  | zero => rfl
  | succ n ih => rw [List.replicate_succ]; show ST.nodesL [] 1 ++ FT.nodesL _ = []; rw [ih]; rfl
theorem lim_nodes (nf np j : Nat) : (limP nf np j).nodes = PT.nodes ⟨[], [.mk 6 0 ⟨#[]⟩ [chainT j] [] []]⟩ := by
  unfold limP PT.nodes
  dsimp only
  rw [fnodes_rep]; rfl
theorem lim_facts : ∀ j : Fin 79, PT.depth ⟨[], [.mk 6 0 ⟨#[]⟩ [chainT j.val] [] []]⟩ = (j.val : Int) + 2 ∧ PT.size ⟨[], [.mk 6 0 ⟨#[]⟩ [chainT j.val] [] []]⟩ = (j.val : Int) + 2 ∧ (PT.nodes ⟨[], [.mk 6 0 ⟨#[]⟩ [chainT j.val] [] []]⟩).all (·.1) = true := by decide +kernel
theorem lim_depth (nf np j : Nat) (hj : j < 79) : (limP nf np j).depth = (j : Int) + 2 := by unfold PT.depth; rw [lim_nodes]; exact (lim_facts ⟨j, hj⟩).1
theorem lim_size (nf np j : Nat) (hj : j < 79) : (limP nf np j).size = (j : Int) + 2 := by unfold PT.size; rw [lim_nodes]; exact (lim_facts ⟨j, hj⟩).2.1
theorem lim_head (np : Nat) : FT.headB ⟨⟨#[102]⟩, List.replicate np ⟨#[112]⟩, []⟩ = decide (np ≤ 8) := by
  unfold FT.headB
  have h1 : nameB ⟨#[102]⟩ = true := by decide +kernel
  have h2 : nameB ⟨#[112]⟩ = true := by decide +kernel
  have h3 : (List.replicate np (⟨#[112]⟩ : ByteArray)).any (fun s => !nameB s) = false := by
    rw [List.any_eq_false]; intro x hx; rw [List.eq_of_mem_replicate hx, h2]; simp
  dsimp only
  rw [h1, h3, List.length_replicate]; simp
theorem lim_right (nf np j : Nat) (hj : j < 79) : (limP nf np j).right = if 32 < nf ∨ (0 < nf ∧ 8 < np) then 1 else if 62 < j then 3 else 0 := by
  have hh : (limP nf np j).headsB = !decide (32 < nf ∨ (0 < nf ∧ 8 < np)) := by
    unfold PT.headsB
    have h3 : (limP nf np j).funcs.any (fun f => !f.headB) = decide (0 < nf ∧ 8 < np) := by
      show (List.replicate nf _).any _ = _
      cases nf with
      | zero => simp
      | succ n =>
        rw [Bool.eq_iff_iff, List.any_eq_true]
        constructor
        · rintro ⟨x, hx, hp⟩
          rw [List.eq_of_mem_replicate hx, lim_head] at hp
          simp at hp ⊢; omega
        · intro h
          refine ⟨_, List.mem_replicate.2 ⟨by omega, rfl⟩, ?_⟩
          rw [lim_head]; simp at h ⊢; omega
    have h4 : (limP nf np j).funcs.length = nf := by show (List.replicate nf _).length = nf; simp
    rw [h3, h4]
    by_cases h1 : nf ≤ 32 <;> by_cases h2 : 0 < nf ∧ 8 < np <;> simp [h1, h2] <;> omega
  unfold PT.right
  rw [hh, lim_nodes, (lim_facts ⟨j, hj⟩).2.2, lim_depth nf np j hj]
  by_cases h : 32 < nf ∨ (0 < nf ∧ 8 < np)
  · rw [if_pos h, decide_eq_true h]; rfl
  · rw [if_neg h, decide_eq_false h]
    by_cases h2 : 62 < j
    · rw [if_pos h2]; simp; omega
    · rw [if_neg h2]; simp; omega
theorem cell_heap {w W : World} {k : Nat} (h : W.heap[k]? = w.heap[k]?) (o : Nat) : W.cell? ⟨k, o, none⟩ = w.cell? ⟨k, o, none⟩ := by simp [World.cell?, h]
theorem set_heap (w : World) (b j : Nat) (v : Value) (k : Nat) (hk : k ≠ b) : (w.setCell ⟨b, j, none⟩ v).heap[k]? = w.heap[k]? := Below.heap_setCell _ _ _ k (fun e => hk (by rw [e]))
theorem set_size (w : World) (b j : Nat) (v : Value) : (w.setCell ⟨b, j, none⟩ v).heap.size = w.heap.size := Array.size_modify
theorem alloc_heap_old (w : World) (o : Obj) (k : Nat) (hk : k < w.heap.size) : (w.alloc o).heap[k]? = w.heap[k]? := ((Below.refl w.heap.size w).alloc (Nat.le_refl _) o).block k hk
theorem chain_step {w : World} {A B c : Nat} {v : Value} (hE : w.heap[B]? = some (.cells #[.int .i64 (chainT c).op, .int .i64 (chainT c).num, .string (chainT c).name, v] 41 (0, 0))) (hA : Apart A B w v (chainT c).parts) (hAl : A < w.heap.size) (W : World)
    (hW : ((((w.setCell ⟨B, 0, none⟩ (.int .i64 7)).setCell ⟨B, 1, none⟩ (.int .i64 0)).setCell ⟨B, 2, none⟩ (.string ⟨#[]⟩)).setCell ⟨B, 3, none⟩ (.slice (some ⟨w.heap.size, 0, none⟩) 1 1)).alloc (.cells #[.int .i64 (chainT c).op, .int .i64 (chainT c).num, .string (chainT c).name, v] 41) = W) :
    W.heap[B]? = some (.cells #[.int .i64 (chainT (c + 1)).op, .int .i64 (chainT (c + 1)).num, .string (chainT (c + 1)).name, .slice (some ⟨w.heap.size, 0, none⟩) 1 1] 41 (0, 0)) ∧ Apart A B W (.slice (some ⟨w.heap.size, 0, none⟩) 1 1) (chainT (c + 1)).parts := by
  have hlt := lt_of_heap hE
  have h4 := heap_set (heap_set (heap_set (heap_set hE 0 (.int .i64 7)) 1 (.int .i64 0)) 2 (.string ⟨#[]⟩)) 3 (.slice (some ⟨w.heap.size, 0, none⟩) 1 1)
  have hs : ((((w.setCell ⟨B, 0, none⟩ (.int .i64 7)).setCell ⟨B, 1, none⟩ (.int .i64 0)).setCell ⟨B, 2, none⟩ (.string ⟨#[]⟩)).setCell ⟨B, 3, none⟩ (.slice (some ⟨w.heap.size, 0, none⟩) 1 1)).heap.size = w.heap.size := by rw [set_size, set_size, set_size, set_size]
  have hold : ∀ k, k ≠ B → k < w.heap.size → W.heap[k]? = w.heap[k]? := by
    intro k hk hkl
    rw [← hW, alloc_heap_old _ _ _ (by rw [hs]; exact hkl), set_heap _ _ _ _ _ hk, set_heap _ _ _ _ _ hk, set_heap _ _ _ _ _ hk, set_heap _ _ _ _ _ hk]
  have hnew := World.alloc_heap_new ((((w.setCell ⟨B, 0, none⟩ (.int .i64 7)).setCell ⟨B, 1, none⟩ (.int .i64 0)).setCell ⟨B, 2, none⟩ (.string ⟨#[]⟩)).setCell ⟨B, 3, none⟩ (.slice (some ⟨w.heap.size, 0, none⟩) 1 1)) (.cells #[.int .i64 (chainT c).op, .int .i64 (chainT c).num, .string (chainT c).name, v] 41)
  rw [hs, hW] at hnew
  constructor
  · rw [← hW, alloc_heap_old _ _ _ (by rw [hs]; exact hlt), h4]; rfl
  · have := Apart.one (A := A) (B := B) hnew (by omega) (by omega) (hA.next (fun k o u _ hk hc => by rw [cell_heap (hold k hk (lt_of_cell hc)) o]; exact hc))
    rw [← chain_eq] at this
    exact this
theorem main_step {w : World} {B E c : Nat} {u v : Value} (hP : w.heap[B]? = some (.cells #[u, .slice none 0 0] 25 (0, 0))) (hA : Apart B E w v (chainT c).parts) (W : World)
    (hW : ((w.setCell ⟨B, 1, none⟩ (.slice (some ⟨w.heap.size + 1, 0, none⟩) 1 1)).alloc (.cells #[.int .i64 (chainT c).op, .int .i64 (chainT c).num, .string (chainT c).name, v] 41)).alloc (.cells #[.int .i64 6, .string ⟨#[]⟩, .int .i64 0, .slice (some ⟨w.heap.size, 0, none⟩) 1 1, .slice none 0 0, .slice none 0 0] 38) = W) :
    SSl W (.slice (some ⟨w.heap.size + 1, 0, none⟩) 1 1) [.mk 6 0 ⟨#[]⟩ [chainT c] [] []] ∧ W.cell? ⟨B, 0, none⟩ = some u ∧ W.cell? ⟨B, 1, none⟩ = some (.slice (some ⟨w.heap.size + 1, 0, none⟩) 1 1) := by
  have hlt := lt_of_heap hP
  have h4 := heap_set hP 1 (.slice (some ⟨w.heap.size + 1, 0, none⟩) 1 1)
  have hs : (w.setCell ⟨B, 1, none⟩ (.slice (some ⟨w.heap.size + 1, 0, none⟩) 1 1)).heap.size = w.heap.size := set_size _ _ _ _
  generalize hw1 : w.setCell ⟨B, 1, none⟩ (.slice (some ⟨w.heap.size + 1, 0, none⟩) 1 1) = w1 at hW h4 hs
  have hn1 := (alloc_heap_old (w1.alloc (.cells #[.int .i64 (chainT c).op, .int .i64 (chainT c).num, .string (chainT c).name, v] 41)) (.cells #[.int .i64 6, .string ⟨#[]⟩, .int .i64 0, .slice (some ⟨w.heap.size, 0, none⟩) 1 1, .slice none 0 0, .slice none 0 0] 38) w1.heap.size (by simp)).trans (World.alloc_heap_new w1 _)
  have hn2 := heap_new2 w1 (.cells #[.int .i64 (chainT c).op, .int .i64 (chainT c).num, .string (chainT c).name, v] 41) (.cells #[.int .i64 6, .string ⟨#[]⟩, .int .i64 0, .slice (some ⟨w.heap.size, 0, none⟩) 1 1, .slice none 0 0, .slice none 0 0] 38)
  rw [hs, hW] at hn1 hn2
  have hold : ∀ k, k < w.heap.size → W.heap[k]? = w1.heap[k]? := by
    intro k hkl
    rw [← hW, alloc_heap_old _ _ _ (by rw [World.size_alloc, hs]; omega), alloc_heap_old _ _ _ (by rw [hs]; exact hkl)]
  have hold' : ∀ k, k ≠ B → k < w.heap.size → W.heap[k]? = w.heap[k]? := by
    intro k hk hkl
    rw [hold k hkl, ← hw1, set_heap _ _ _ _ _ hk]
  have hes : ESl W v (chainT c).parts := hA W (fun k o u hk _ hc => by rw [cell_heap (hold' k hk (lt_of_cell hc)) o]; exact hc)
  have he := ESl.one hn1 hes
  rw [← chain_eq] at he
  refine ⟨SSl.one hn2 he (SSl.nil W) (SSl.nil W), ?_, ?_⟩
  · exact cell_of_heap ((hold B hlt).trans h4) 0
  · exact cell_of_heap ((hold B hlt).trans h4) 1
end Go.Proofs.YtplckmpamekloaaDoor
