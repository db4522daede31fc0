/- Depths and sizes where nothing wraps: what holds something is deeper, and larger, by one. -/
import Derived.Test.YthjjcmmonjajhaaDoorTreePure
namespace Go.Proofs.YthjjcmmonjajhaaDoor
open Go.RowKit Go.Sort
set_option linter.unusedVariables false

theorem wrap_small {x : Int} (h0 : 0 ≤ x) (h : x ≤ 4611686018427387904) : wrap64 x = x := by
  unfold wrap64; omega
def up1 (x : Bool × Int) : Bool × Int := (x.1, x.2 + 1)
mutual
theorem ET.nodes_len : ∀ (e : ET) (d d' : Int), (e.nodes d).length = (e.nodes d').length
  | .mk o n s l, d, d' => by simp only [ET.nodes, List.length_cons]; rw [ET.nodesL_len l _ (wrap64 (d' + 1))]
theorem ET.nodesL_len : ∀ (l : List ET) (d d' : Int), (ET.nodesL l d).length = (ET.nodesL l d').length
  | [], _, _ => rfl
  | e :: r, d, d' => by simp only [ET.nodesL, List.length_append]; rw [ET.nodes_len e d d', ET.nodesL_len r d d']
end
mutual
theorem ST.nodes_len : ∀ (e : ST) (d d' : Int), (e.nodes d).length = (e.nodes d').length
  | .mk o n s l b e, d, d' => by simp only [ST.nodes, List.length_cons, List.length_append]; rw [ET.nodesL_len l _ (wrap64 (d' + 1)), ST.nodesL_len b _ (wrap64 (d' + 1)), ST.nodesL_len e _ (wrap64 (d' + 1))]
theorem ST.nodesL_len : ∀ (l : List ST) (d d' : Int), (ST.nodesL l d).length = (ST.nodesL l d').length
  | [], _, _ => rfl
  | e :: r, d, d' => by simp only [ST.nodesL, List.length_append]; rw [ST.nodes_len e d d', ST.nodesL_len r d d']
end
mutual
theorem ET.nodes_up : ∀ (e : ET) (d : Int), 0 ≤ d → d + (e.nodes 0).length ≤ 4611686018427387000 → e.nodes (d + 1) = (e.nodes d).map up1
  | .mk o n s l, d, h0, h => by
    simp only [ET.nodes, List.length_cons, List.map_cons, up1] at h ⊢
    rw [ET.nodesL_len l _ 0] at h
    rw [wrap_small (x := d + 1) (by omega) (by omega), wrap_small (x := d + 1 + 1) (by omega) (by omega), ET.nodesL_up l (d + 1) (by omega) (by omega)]
theorem ET.nodesL_up : ∀ (l : List ET) (d : Int), 0 ≤ d → d + (ET.nodesL l 0).length ≤ 4611686018427387000 → ET.nodesL l (d + 1) = (ET.nodesL l d).map up1
  | [], _, _, _ => rfl
  | e :: r, d, h0, h => by
    simp only [ET.nodesL, List.length_append, List.map_append] at h ⊢
    rw [ET.nodes_up e d h0 (by omega), ET.nodesL_up r d h0 (by omega)]
end
mutual
theorem ST.nodes_up : ∀ (e : ST) (d : Int), 0 ≤ d → d + (e.nodes 0).length ≤ 4611686018427387000 → e.nodes (d + 1) = (e.nodes d).map up1
  | .mk o n s l b e, d, h0, h => by
    simp only [ST.nodes, List.length_cons, List.map_cons, up1, List.length_append, List.map_append] at h ⊢
    rw [ET.nodesL_len l _ 0, ST.nodesL_len b _ 0, ST.nodesL_len e _ 0] at h
    rw [wrap_small (x := d + 1) (by omega) (by omega), wrap_small (x := d + 1 + 1) (by omega) (by omega), ET.nodesL_up l (d + 1) (by omega) (by omega), ST.nodesL_up b (d + 1) (by omega) (by omega), ST.nodesL_up e (d + 1) (by omega) (by omega)]
theorem ST.nodesL_up : ∀ (l : List ST) (d : Int), 0 ≤ d → d + (ST.nodesL l 0).length ≤ 4611686018427387000 → ST.nodesL l (d + 1) = (ST.nodesL l d).map up1
  | [], _, _, _ => rfl
  | e :: r, d, h0, h => by
    simp only [ST.nodesL, List.length_append, List.map_append] at h ⊢
    rw [ST.nodes_up e d h0 (by omega), ST.nodesL_up r d h0 (by omega)]
end
theorem depthF_from (l : List (Bool × Int)) : ∀ n : Int, 0 ≤ n → l.foldl (fun n x => max n x.2) n = max n (depthF l) := by
  induction l with
  | nil => intro n h; simp [depthF]; omega
  | cons x l ih =>
    intro n h
    have e1 := ih (max n x.2) (by omega)
    have e2 := ih (max 0 x.2) (by omega)
    simp only [depthF, List.foldl_cons] at e1 e2 ⊢
    rw [e1, e2]; omega
theorem depthF_nonneg (l : List (Bool × Int)) : 0 ≤ depthF l := by
  have := depthF_from l 0 (by omega)
  unfold depthF at this ⊢
  omega
theorem depthF_cons (x : Bool × Int) (l : List (Bool × Int)) : depthF (x :: l) = max (max 0 x.2) (depthF l) := by
  have := depthF_from l (max 0 x.2) (by omega)
  simpa [depthF] using this
theorem depthF_append (l r : List (Bool × Int)) : depthF (l ++ r) = max (depthF l) (depthF r) := by
  have := depthF_from r (depthF l) (depthF_nonneg l)
  rw [← this]; simp [depthF]
theorem depthF_up (l : List (Bool × Int)) (h : ∀ x ∈ l, 0 ≤ x.2) (hne : l ≠ []) : depthF (l.map up1) = depthF l + 1 := by
  induction l with
  | nil => exact absurd rfl hne
  | cons x l ih =>
    have hx := h x (by simp)
    rw [List.map_cons, depthF_cons, depthF_cons]
    by_cases hl : l = []
    · subst hl; simp only [up1, List.map_nil, depthF, List.foldl_nil]; omega
    · rw [ih (fun y hy => h y (by simp [hy])) hl]; simp only [up1]; have := depthF_nonneg l; omega
theorem sizeF_from (l : List (Bool × Int)) : ∀ n : Int, 0 ≤ n → n + l.length ≤ 4611686018427387904 → l.foldl (fun n _ => wrap64 (n + 1)) n = n + l.length := by
  induction l with
  | nil => intro n _ _; simp
  | cons x l ih =>
    intro n h0 h
    simp only [List.length_cons] at h
    rw [List.foldl_cons, wrap_small (by omega) (by omega), ih (n + 1) (by omega) (by omega)]
    simp only [List.length_cons]; omega
theorem sizeF_small (l : List (Bool × Int)) (h : l.length ≤ 4611686018427387904) : sizeF l = l.length := by
  have := sizeF_from l 0 (by omega) (by omega)
  rw [Int.zero_add] at this; exact this
mutual
theorem ET.nodes_ge : ∀ (e : ET) (d : Int), 1 ≤ d → d + (e.nodes 0).length ≤ 4611686018427387000 → ∀ x ∈ e.nodes d, d ≤ x.2
  | .mk o n s l, d, h0, h => by
    simp only [ET.nodes, List.length_cons] at h ⊢
    rw [ET.nodesL_len l _ 0] at h
    rw [wrap_small (x := d + 1) (by omega) (by omega)]
    intro x hx
    rcases List.mem_cons.1 hx with rfl | hx
    · exact Int.le_refl _
    · have := ET.nodesL_ge l (d + 1) (by omega) (by omega) x hx; omega
theorem ET.nodesL_ge : ∀ (l : List ET) (d : Int), 1 ≤ d → d + (ET.nodesL l 0).length ≤ 4611686018427387000 → ∀ x ∈ ET.nodesL l d, d ≤ x.2
  | [], _, _, _ => by intro x hx; simp [ET.nodesL] at hx
  | e :: r, d, h0, h => by
    simp only [ET.nodesL, List.length_append] at h ⊢
    intro x hx
    rcases List.mem_append.1 hx with hx | hx
    · exact ET.nodes_ge e d h0 (by omega) x hx
    · exact ET.nodesL_ge r d h0 (by omega) x hx
end
mutual
theorem ST.nodes_ge : ∀ (e : ST) (d : Int), 1 ≤ d → d + (e.nodes 0).length ≤ 4611686018427387000 → ∀ x ∈ e.nodes d, d ≤ x.2
  | .mk o n s l b e, d, h0, h => by
    simp only [ST.nodes, List.length_cons, List.length_append] at h ⊢
    rw [ET.nodesL_len l _ 0, ST.nodesL_len b _ 0, ST.nodesL_len e _ 0] at h
    rw [wrap_small (x := d + 1) (by omega) (by omega)]
    intro x hx
    rcases List.mem_cons.1 hx with rfl | hx
    · exact Int.le_refl _
    · rcases List.mem_append.1 hx with hx | hx
      · have := ET.nodesL_ge l (d + 1) (by omega) (by omega) x hx; omega
      · rcases List.mem_append.1 hx with hx | hx
        · have := ST.nodesL_ge b (d + 1) (by omega) (by omega) x hx; omega
        · have := ST.nodesL_ge e (d + 1) (by omega) (by omega) x hx; omega
theorem ST.nodesL_ge : ∀ (l : List ST) (d : Int), 1 ≤ d → d + (ST.nodesL l 0).length ≤ 4611686018427387000 → ∀ x ∈ ST.nodesL l d, d ≤ x.2
  | [], _, _, _ => by intro x hx; simp [ST.nodesL] at hx
  | e :: r, d, h0, h => by
    simp only [ST.nodesL, List.length_append] at h ⊢
    intro x hx
    rcases List.mem_append.1 hx with hx | hx
    · exact ST.nodes_ge e d h0 (by omega) x hx
    · exact ST.nodesL_ge r d h0 (by omega) x hx
end
def lone (l : List ST) : PT := ⟨[], l⟩
theorem lone_nodes (l : List ST) : (lone l).nodes = ST.nodesL l 1 := rfl
/-- The depth of what a statement with one small expression holds. -/
theorem held_depth (l : List ST) (hl : (ST.nodesL l 1).length ≤ 1048576) : ∀ (A : List (Bool × Int)) (x y : Bool), A = (x, 1) :: (y, 2) :: ST.nodesL l 2 → depthF A = max (lone l).depth 1 + 1 ∧ sizeF A = (lone l).size + 2 := by
  rintro A x y rfl
  have hup := ST.nodesL_up l 1 (by omega) (by rw [ST.nodesL_len l 0 1]; omega)
  have hge := ST.nodesL_ge l 1 (by omega) (by rw [ST.nodesL_len l 0 1]; omega)
  rw [show (1 : Int) + 1 = 2 from rfl] at hup
  unfold PT.depth PT.size
  rw [lone_nodes]
  refine ⟨?_, ?_⟩
  · rw [depthF_cons, depthF_cons, hup]
    by_cases h0 : ST.nodesL l 1 = []
    · rw [h0]; rfl
    · rw [depthF_up _ (fun z hz => by have := hge z hz; omega) h0]
      obtain ⟨z, r, hz⟩ := List.exists_cons_of_ne_nil h0
      have h1 : 1 ≤ depthF (ST.nodesL l 1) := by
        rw [hz, depthF_cons]; have := hge z (by rw [hz]; simp); omega
      omega
  · rw [sizeF_small _ (by simp only [List.length_cons]; rw [ST.nodesL_len l 2 1]; omega), sizeF_small _ (by omega)]
    simp only [List.length_cons]; rw [ST.nodesL_len l 2 1]; omega
/-- One number, as the law lays it. -/
def unitT : ET := .mk 1 1 ⟨#[]⟩ []
theorem deep_while (l : List ST) (hl : (ST.nodesL l 1).length ≤ 1048576) (s : ByteArray) : (lone [.mk 8 0 s [unitT] l []]).depth = max (lone l).depth 1 + 1 ∧ (lone [.mk 8 0 s [unitT] l []]).size = (lone l).size + 2 :=
  held_depth l hl _ (stmtB 8 0 s 1 l.length 0) (exprB 1 1 ⟨#[]⟩ 0) (by rw [lone_nodes]; simp [ST.nodesL, ST.nodes, ET.nodesL, ET.nodes, unitT, wrap64])
theorem deep_if (l : List ST) (hl : (ST.nodesL l 1).length ≤ 1048576) (s : ByteArray) : (lone [.mk 7 0 s [unitT] [] l]).depth = max (lone l).depth 1 + 1 ∧ (lone [.mk 7 0 s [unitT] [] l]).size = (lone l).size + 2 :=
  held_depth l hl _ (stmtB 7 0 s 1 0 l.length) (exprB 1 1 ⟨#[]⟩ 0) (by rw [lone_nodes]; simp [ST.nodesL, ST.nodes, ET.nodesL, ET.nodes, unitT, wrap64])
theorem deep_func (l : List ST) (s : ByteArray) (ps : List ByteArray) : (PT.mk [⟨s, ps, l⟩] []).depth = (lone l).depth ∧ (PT.mk [⟨s, ps, l⟩] []).size = (lone l).size := by
  have : (PT.mk [⟨s, ps, l⟩] []).nodes = (lone l).nodes := by simp [PT.nodes, lone, FT.nodesL, ST.nodesL]
  unfold PT.depth PT.size
  rw [this]; exact ⟨rfl, rfl⟩
theorem deep_both (l r : List ST) (hl : (ST.nodesL l 1).length ≤ 1048576) (hr : (ST.nodesL r 1).length ≤ 1048576) : (lone (l ++ r)).depth = max (lone l).depth (lone r).depth ∧ (lone (l ++ r)).size = (lone l).size + (lone r).size := by
  unfold PT.depth PT.size
  rw [lone_nodes, lone_nodes, lone_nodes, ST.nodesL_append]
  refine ⟨depthF_append _ _, ?_⟩
  rw [sizeF_small _ (by simp only [List.length_append]; omega), sizeF_small _ (by omega), sizeF_small _ (by omega)]
  simp
theorem deep_whole (p : PT) (hp : p.nodes.length ≤ 1048576) : (lone p.main).depth ≤ p.depth ∧ (lone p.main).size ≤ p.size := by
  unfold PT.depth PT.size
  rw [lone_nodes]
  unfold PT.nodes at hp ⊢
  rw [List.length_append] at hp
  refine ⟨by rw [depthF_append]; omega, ?_⟩
  rw [sizeF_small _ (by omega), sizeF_small _ (by simp only [List.length_append]; omega), List.length_append]
  omega
theorem ST.node_pos (e : ST) (d : Int) : 0 < (e.nodes d).length := by cases e; simp [ST.nodes]
theorem ST.le_nodesL (l : List ST) (d : Int) : l.length ≤ (ST.nodesL l d).length := by
  induction l with
  | nil => simp
  | cons e r ih => have := ST.node_pos e d; simp only [ST.nodesL, List.length_append, List.length_cons]; omega
theorem main_le (p : PT) (h : p.nodes.length ≤ 1048576) : p.main.length ≤ 1048576 ∧ (ST.nodesL p.main 1).length ≤ 1048576 := by
  unfold PT.nodes at h
  rw [List.length_append] at h
  have := ST.le_nodesL p.main 1
  omega
theorem depthF_le (l : List (Bool × Int)) (m : Int) (h0 : 0 ≤ m) (h : ∀ x ∈ l, x.2 ≤ m) : depthF l ≤ m := by
  induction l with
  | nil => simp [depthF]; exact h0
  | cons x l ih =>
    rw [depthF_cons]
    have := h x (by simp)
    have := ih (fun y hy => h y (by simp [hy]))
    omega
mutual
theorem ET.nodes_le : ∀ (e : ET) (d : Int), 1 ≤ d → d + (e.nodes 0).length ≤ 4611686018427387000 → ∀ x ∈ e.nodes d, x.2 < d + (e.nodes 0).length
  | .mk o n s l, d, h0, h => by
    simp only [ET.nodes, List.length_cons] at h ⊢
    rw [ET.nodesL_len l _ 0] at h
    rw [wrap_small (x := d + 1) (by omega) (by omega), ET.nodesL_len l (wrap64 (0 + 1)) 0]
    intro x hx
    rcases List.mem_cons.1 hx with rfl | hx
    · show d < _; omega
    · have := ET.nodesL_le l (d + 1) (by omega) (by omega) x hx; omega
theorem ET.nodesL_le : ∀ (l : List ET) (d : Int), 1 ≤ d → d + (ET.nodesL l 0).length ≤ 4611686018427387000 → ∀ x ∈ ET.nodesL l d, x.2 < d + (ET.nodesL l 0).length
  | [], _, _, _ => by intro x hx; simp [ET.nodesL] at hx
  | e :: r, d, h0, h => by
    simp only [ET.nodesL, List.length_append] at h ⊢
    intro x hx
    rcases List.mem_append.1 hx with hx | hx
    · have := ET.nodes_le e d h0 (by omega) x hx; omega
    · have := ET.nodesL_le r d h0 (by omega) x hx; omega
end
mutual
theorem ST.nodes_le : ∀ (e : ST) (d : Int), 1 ≤ d → d + (e.nodes 0).length ≤ 4611686018427387000 → ∀ x ∈ e.nodes d, x.2 < d + (e.nodes 0).length
  | .mk o n s l b e, d, h0, h => by
    simp only [ST.nodes, List.length_cons, List.length_append] at h ⊢
    rw [ET.nodesL_len l _ 0, ST.nodesL_len b _ 0, ST.nodesL_len e _ 0] at h
    rw [wrap_small (x := d + 1) (by omega) (by omega), ET.nodesL_len l (wrap64 (0 + 1)) 0, ST.nodesL_len b (wrap64 (0 + 1)) 0, ST.nodesL_len e (wrap64 (0 + 1)) 0]
    intro x hx
    rcases List.mem_cons.1 hx with rfl | hx
    · show d < _; omega
    · rcases List.mem_append.1 hx with hx | hx
      · have := ET.nodesL_le l (d + 1) (by omega) (by omega) x hx; omega
      · rcases List.mem_append.1 hx with hx | hx
        · have := ST.nodesL_le b (d + 1) (by omega) (by omega) x hx; omega
        · have := ST.nodesL_le e (d + 1) (by omega) (by omega) x hx; omega
theorem ST.nodesL_le : ∀ (l : List ST) (d : Int), 1 ≤ d → d + (ST.nodesL l 0).length ≤ 4611686018427387000 → ∀ x ∈ ST.nodesL l d, x.2 < d + (ST.nodesL l 0).length
  | [], _, _, _ => by intro x hx; simp [ST.nodesL] at hx
  | e :: r, d, h0, h => by
    simp only [ST.nodesL, List.length_append] at h ⊢
    intro x hx
    rcases List.mem_append.1 hx with hx | hx
    · have := ST.nodes_le e d h0 (by omega) x hx; omega
    · have := ST.nodesL_le r d h0 (by omega) x hx; omega
end
theorem deep_range (p : PT) (hp : p.nodes.length ≤ 1048576) : (0 ≤ (lone p.main).depth ∧ (lone p.main).depth ≤ 1048578) ∧ (0 ≤ (lone p.main).size ∧ (lone p.main).size ≤ 1048576) := by
  have hl := (main_le p hp).2
  refine ⟨⟨depthF_nonneg _, depthF_le _ _ (by omega) fun x hx => ?_⟩, ?_⟩
  · have := ST.nodesL_le p.main 1 (by omega) (by rw [ST.nodesL_len _ 0 1]; omega) x hx
    rw [ST.nodesL_len _ 0 1] at this; omega
  · unfold PT.size
    rw [lone_nodes, sizeF_small _ (by omega)]
    omega
end Go.Proofs.YthjjcmmonjajhaaDoor
