/- Where nothing wraps the document's Depth, Size and Right are the program's own. -/
import Derived.Test.YtplckmpamekloaaDoorTellsP
import Derived.Test.YtplckmpamekloaaDoorTreeDeepLaws
namespace Go.Proofs.YtplckmpamekloaaDoor
open Go.RowKit Go.Sort
set_option linter.unusedVariables false

mutual
theorem ET.rdeep_eq : ∀ (e : ET) (d : Int), 1 ≤ d → d + (e.nodes 0).length ≤ 4611686018427387000 → 0 ≤ e.rdeep ∧ e.rdeep + 1 ≤ (e.nodes 0).length ∧ depthF (e.nodes d) = d + e.rdeep
  | .mk o n s l, d, h0, h => by
    simp only [ET.nodes, List.length_cons, ET.rdeep] at h ⊢
    rw [ET.nodesL_len l _ 0] at h ⊢
    have := ET.rdeepL_eq l 0 (d + 1) (by omega) (by omega) (by omega) (by omega)
    rw [wrap_small (x := d + 1) (by omega) (by omega), depthF_cons]
    simp only
    omega
theorem ET.rdeepL_eq : ∀ (l : List ET) (n d : Int), 0 ≤ n → n ≤ 4611686018427387000 → 1 ≤ d → d + (ET.nodesL l 0).length ≤ 4611686018427387000 →
    (0 ≤ ET.rdeepL l 0 ∧ ET.rdeepL l 0 ≤ (ET.nodesL l 0).length) ∧ ET.rdeepL l n = max n (ET.rdeepL l 0) ∧ max (d - 1) (depthF (ET.nodesL l d)) = d - 1 + ET.rdeepL l 0
  | [], n, d, hn, hn', h0, h => by simp [ET.rdeepL, ET.nodesL, depthF]; omega
  | e :: r, n, d, hn, hn', h0, h => by
    simp only [ET.nodesL, List.length_append, ET.rdeepL] at h ⊢
    have h1 := ET.rdeep_eq e d h0 (by omega)
    rw [wrap_small (x := 1 + e.rdeep) (by omega) (by omega), depthF_append]
    have h2 := ET.rdeepL_eq r (max n (1 + e.rdeep)) d (by omega) (by omega) h0 (by omega)
    have h3 := ET.rdeepL_eq r (max 0 (1 + e.rdeep)) d (by omega) (by omega) h0 (by omega)
    have h4 := depthF_nonneg (ET.nodesL r d)
    omega
end
mutual
theorem ST.rdeep_eq : ∀ (e : ST) (d : Int), 1 ≤ d → d + (e.nodes 0).length ≤ 4611686018427387000 → 0 ≤ e.rdeep ∧ e.rdeep + 1 ≤ (e.nodes 0).length ∧ depthF (e.nodes d) = d + e.rdeep
  | .mk o n s l b e, d, h0, h => by
    simp only [ST.nodes, List.length_cons, List.length_append, ST.rdeep] at h ⊢
    rw [ET.nodesL_len l _ 0, ST.nodesL_len b _ 0, ST.nodesL_len e _ 0] at h ⊢
    have h1 := ET.rdeepL_eq l 0 (d + 1) (by omega) (by omega) (by omega) (by omega)
    have h2 := ST.rdeepL_eq b 0 (d + 1) (by omega) (by omega) (by omega) (by omega)
    have h3 := ST.rdeepL_eq e 0 (d + 1) (by omega) (by omega) (by omega) (by omega)
    obtain ⟨⟨a0, a1⟩, _, a2⟩ := h1
    obtain ⟨⟨b0, b1⟩, _, b2⟩ := h2
    obtain ⟨⟨c0, c1⟩, _, c2⟩ := h3
    rw [wrap_small (x := d + 1) (by omega) (by omega), depthF_cons, depthF_append, depthF_append]
    simp only
    generalize ET.rdeepL l 0 = x at *
    generalize ST.rdeepL b 0 = y at *
    generalize ST.rdeepL e 0 = z at *
    generalize depthF (ET.nodesL l (d + 1)) = u at *
    generalize depthF (ST.nodesL b (d + 1)) = v at *
    generalize depthF (ST.nodesL e (d + 1)) = t at *
    have e1 : max d u = d + x := by omega
    have e2 : max d v = d + y := by omega
    have e3 : max d t = d + z := by omega
    clear a2 b2 c2
    refine ⟨by omega, by omega, ?_⟩
    rw [Int.max_eq_right (show (0 : Int) ≤ d by omega)]
    have e4 : max d (max v t) = d + max y z := by clear e1; omega
    clear e2 e3
    omega
theorem ST.rdeepL_eq : ∀ (l : List ST) (n d : Int), 0 ≤ n → n ≤ 4611686018427387000 → 1 ≤ d → d + (ST.nodesL l 0).length ≤ 4611686018427387000 →
    (0 ≤ ST.rdeepL l 0 ∧ ST.rdeepL l 0 ≤ (ST.nodesL l 0).length) ∧ ST.rdeepL l n = max n (ST.rdeepL l 0) ∧ max (d - 1) (depthF (ST.nodesL l d)) = d - 1 + ST.rdeepL l 0
  | [], n, d, hn, hn', h0, h => by simp [ST.rdeepL, ST.nodesL, depthF]; omega
  | e :: r, n, d, hn, hn', h0, h => by
    simp only [ST.nodesL, List.length_append, ST.rdeepL] at h ⊢
    have h1 := ST.rdeep_eq e d h0 (by omega)
    rw [wrap_small (x := 1 + e.rdeep) (by omega) (by omega), depthF_append]
    have h2 := ST.rdeepL_eq r (max n (1 + e.rdeep)) d (by omega) (by omega) h0 (by omega)
    have h3 := ST.rdeepL_eq r (max 0 (1 + e.rdeep)) d (by omega) (by omega) h0 (by omega)
    have h4 := depthF_nonneg (ST.nodesL r d)
    omega
end
theorem ST.rdeepL_depth (l : List ST) (h : (ST.nodesL l 1).length ≤ 1048576) : depthF (ST.nodesL l 1) = ST.rdeepL l 0 := by
  rw [ST.nodesL_len l 1 0] at h
  have := ST.rdeepL_eq l 0 1 (by omega) (by omega) (by omega) (by omega)
  have h4 := depthF_nonneg (ST.nodesL l 1)
  omega
theorem ET.node_pos (e : ET) (d : Int) : 0 < (e.nodes d).length := by cases e; simp [ET.nodes]
theorem ET.le_nodesL (l : List ET) (d : Int) : l.length ≤ (ET.nodesL l d).length := by
  induction l with
  | nil => simp
  | cons e r ih => have := ET.node_pos e d; simp only [ET.nodesL, List.length_append, List.length_cons]; omega
mutual
theorem ET.rmany_eq : ∀ (e : ET), (e.nodes 0).length ≤ 1048576 → e.rmany + 1 = (e.nodes 0).length ∧ 0 ≤ e.rmany
  | .mk o n s l, h => by
    simp only [ET.nodes, List.length_cons, ET.rmany] at h ⊢
    rw [ET.nodesL_len l _ 0] at h ⊢
    have hl := ET.le_nodesL l 0
    have := ET.rmanyL_eq l l.length (by omega) (by omega) (by omega)
    omega
theorem ET.rmanyL_eq : ∀ (l : List ET) (n : Int), 0 ≤ n → (ET.nodesL l 0).length ≤ 1048576 → n + (ET.nodesL l 0).length ≤ 4611686018427387000 → ET.rmanyL l n + l.length = n + (ET.nodesL l 0).length
  | [], n, hn, hn', h => by simp [ET.rmanyL, ET.nodesL]
  | e :: r, n, hn, hn', h => by
    simp only [ET.nodesL, List.length_append, ET.rmanyL, List.length_cons] at h hn' ⊢
    have h1 := ET.rmany_eq e (by omega)
    rw [wrap_small (x := n + e.rmany) (by omega) (by omega)]
    have h2 := ET.rmanyL_eq r (n + e.rmany) (by omega) (by omega) (by omega)
    omega
end
mutual
theorem ST.rmany_eq : ∀ (e : ST) (n : Int), 0 ≤ n → (e.nodes 0).length ≤ 1048576 → n + (e.nodes 0).length ≤ 4611686018427387000 → ST.rmany e n + 1 = n + (e.nodes 0).length
  | .mk o k s l b e, n, hn, h, h' => by
    simp only [ST.nodes, List.length_cons, List.length_append, ST.rmany] at h h' ⊢
    rw [ET.nodesL_len l _ 0, ST.nodesL_len b _ 0, ST.nodesL_len e _ 0] at h h' ⊢
    have hl := ET.le_nodesL l 0
    have hb := ST.le_nodesL b 0
    have he := ST.le_nodesL e 0
    have h1 := ET.rmanyL_eq l l.length (by omega) (by omega) (by omega)
    have h2 := ST.rmanyL_eq b b.length (by omega) (by omega) (by omega)
    have h3 := ST.rmanyL_eq e e.length (by omega) (by omega) (by omega)
    rw [wrap_small (x := n + _) (by omega) (by omega), wrap_small (x := n + _ + _) (by omega) (by omega), wrap_small (x := n + _ + _ + _) (by omega) (by omega)]
    omega
theorem ST.rmanyL_eq : ∀ (l : List ST) (n : Int), 0 ≤ n → (ST.nodesL l 0).length ≤ 1048576 → n + (ST.nodesL l 0).length ≤ 4611686018427387000 → ST.rmanyL l n + l.length = n + (ST.nodesL l 0).length
  | [], n, hn, hn', h => by simp [ST.rmanyL, ST.nodesL]
  | e :: r, n, hn, hn', h => by
    simp only [ST.nodesL, List.length_append, ST.rmanyL, List.length_cons] at h hn' ⊢
    have h0 := ST.node_pos e 0
    have h1 := ST.rmany_eq e n hn (by omega) (by omega)
    have h2 := ST.rmanyL_eq r (ST.rmany e n) (by omega) (by omega) (by omega)
    omega
end
theorem ST.rmanyL_size (l : List ST) (h : (ST.nodesL l 1).length ≤ 1048576) : ST.rmanyL l l.length = (ST.nodesL l 1).length := by
  rw [ST.nodesL_len l 1 0] at h ⊢
  have hl := ST.le_nodesL l 0
  have := ST.rmanyL_eq l l.length (by omega) (by omega) (by omega)
  omega
theorem rdepthL_eq (l : List FT) : ∀ n : Int, 0 ≤ n → (FT.nodesL l).length ≤ 1048576 → FT.rdepthL l n = max n (depthF (FT.nodesL l)) := by
  induction l with
  | nil => intro n hn _; simp [FT.rdepthL, FT.nodesL, depthF]; omega
  | cons f r ih =>
    intro n hn h
    simp only [FT.nodesL, List.flatMap_cons, List.length_append] at h
    have h1 := ST.rdeepL_depth f.body (by omega)
    have h0 := depthF_nonneg (ST.nodesL f.body 1)
    have h2 := ih (max n (ST.rdeepL f.body 0)) (by omega) (by unfold FT.nodesL; omega)
    simp only [FT.rdepthL, List.foldl_cons, FT.nodesL, List.flatMap_cons] at h2 ⊢
    rw [h2, depthF_append]
    omega
theorem PT.rdepth_eq (p : PT) (h : p.nodes.length ≤ 1048576) : p.rdepth = p.depth := by
  unfold PT.rdepth PT.depth
  unfold PT.nodes at h ⊢
  rw [List.length_append] at h
  have h1 := ST.rdeepL_depth p.main (by omega)
  have h0 := depthF_nonneg (ST.nodesL p.main 1)
  rw [rdepthL_eq _ _ (by omega) (by omega), depthF_append]
  omega
theorem rsizeL_eq (l : List FT) : ∀ n : Int, 0 ≤ n → n + (FT.nodesL l).length ≤ 1048576 → FT.rsizeL l n = n + (FT.nodesL l).length := by
  induction l with
  | nil => intro n hn _; simp [FT.rsizeL, FT.nodesL]
  | cons f r ih =>
    intro n hn h
    simp only [FT.nodesL, List.flatMap_cons, List.length_append] at h
    have h1 := ST.rmanyL_size f.body (by omega)
    have h2 := ih (n + (ST.nodesL f.body 1).length) (by omega) (by unfold FT.nodesL; omega)
    simp only [FT.rsizeL, List.foldl_cons, FT.nodesL, List.flatMap_cons, List.length_append] at h2 ⊢
    rw [h1, wrap_small (by omega) (by omega), h2]
    omega
theorem PT.rsize_eq (p : PT) (h : p.nodes.length ≤ 1048576) : p.rsize = p.size := by
  unfold PT.rsize PT.size
  unfold PT.nodes at h ⊢
  rw [List.length_append] at h
  rw [ST.rmanyL_size _ (by omega), rsizeL_eq _ _ (by omega) (by omega), sizeF_small _ (by rw [List.length_append]; omega), List.length_append]
  omega

/- What the document's expr, exprs, stmts tell. -/
mutual
def ET.okB : ET → Bool
  | .mk o n s l => exprB o n s l.length && ET.okL l
def ET.okL : List ET → Bool
  | [] => true
  | e :: r => ET.okB e && ET.okL r
end
mutual
def ST.okB : ST → Bool
  | .mk o n s l b e => stmtB o n s l.length b.length e.length && (ET.okL l && (ST.okL b && ST.okL e))
def ST.okL : List ST → Bool
  | [] => true
  | e :: r => ST.okB e && ST.okL r
end
mutual
theorem ET.okB_eq : ∀ (e : ET) (d : Int), (e.nodes d).all (·.1) = e.okB
  | .mk o n s l, d => by simp only [ET.nodes, ET.okB, List.all_cons]; rw [ET.okL_eq l]
theorem ET.okL_eq : ∀ (l : List ET) (d : Int), (ET.nodesL l d).all (·.1) = ET.okL l
  | [], _ => rfl
  | e :: r, d => by simp only [ET.nodesL, ET.okL, List.all_append]; rw [ET.okB_eq e, ET.okL_eq r]
end
mutual
theorem ST.okB_eq : ∀ (e : ST) (d : Int), (e.nodes d).all (·.1) = e.okB
  | .mk o n s l b e, d => by simp only [ST.nodes, ST.okB, List.all_cons, List.all_append]; rw [ET.okL_eq l, ST.okL_eq b, ST.okL_eq e]
theorem ST.okL_eq : ∀ (l : List ST) (d : Int), (ST.nodesL l d).all (·.1) = ST.okL l
  | [], _ => rfl
  | e :: r, d => by simp only [ST.nodesL, ST.okL, List.all_append]; rw [ST.okB_eq e, ST.okL_eq r]
end
theorem ET.okL_append (l r : List ET) : ET.okL (l ++ r) = (ET.okL l && ET.okL r) := by
  rw [← ET.okL_eq _ 0, ET.nodesL_append, List.all_append, ET.okL_eq, ET.okL_eq]
theorem ST.okL_append (l r : List ST) : ST.okL (l ++ r) = (ST.okL l && ST.okL r) := by
  rw [← ST.okL_eq _ 0, ST.nodesL_append, List.all_append, ST.okL_eq, ST.okL_eq]
theorem ET.okL_take (l : List ET) (k : Nat) (h : k < l.length) : ET.okL (l.take (k + 1)) = (ET.okL (l.take k) && (l.getD k default).okB) := by
  rw [take_next l default k h, ET.okL_append]; simp [ET.okL]
theorem ST.okL_take (l : List ST) (k : Nat) (h : k < l.length) : ST.okL (l.take (k + 1)) = (ST.okL (l.take k) && (l.getD k default).okB) := by
  rw [take_next l default k h, ST.okL_append]; simp [ST.okL]
theorem ET.okB_parts (e : ET) : e.okB = (exprB e.op e.num e.name e.parts.length && ET.okL e.parts) := by cases e; rfl
theorem ST.okB_parts (e : ST) : e.okB = (stmtB e.op e.num e.name e.parts.length e.body.length e.els.length && (ET.okL e.parts && (ST.okL e.body && ST.okL e.els))) := by cases e; rfl
/-- A row that begins with what is not right is not right. -/
theorem ET.okL_mem (l : List ET) (k : Nat) (hk : k < l.length) (h : (l.getD k default).okB = false) : ET.okL l = false := by
  have h1 := ET.okL_take l k hk
  rw [h, Bool.and_false] at h1
  rw [← List.take_append_drop (k + 1) l, ET.okL_append, h1]; rfl
theorem ST.okL_mem (l : List ST) (k : Nat) (hk : k < l.length) (h : (l.getD k default).okB = false) : ST.okL l = false := by
  have h1 := ST.okL_take l k hk
  rw [h, Bool.and_false] at h1
  rw [← List.take_append_drop (k + 1) l, ST.okL_append, h1]; rfl
def FT.okB (f : FT) : Bool := nameB f.name && (ST.okL f.body && (decide (f.params.length ≤ 8) && f.params.all nameB))
/-- What the document's Right tells. -/
def PT.rright (p : PT) : Int := if decide (p.funcs.length ≤ 32) && (p.funcs.all FT.okB && ST.okL p.main) then (if 64 < p.rdepth then 3 else 0) else 1
theorem FT.ok_all (l : List FT) : l.all FT.okB = (!l.any (fun f => !f.headB) && (FT.nodesL l).all (·.1)) := by
  induction l with
  | nil => rfl
  | cons f r ih =>
    have hp : (!f.params.any (fun s => !nameB s)) = f.params.all nameB := by
      rw [List.not_any_eq_all_not]; simp
    simp only [List.all_cons, List.any_cons, FT.nodesL, List.flatMap_cons, List.all_append] at ih ⊢
    rw [ih, ST.okL_eq]
    unfold FT.okB FT.headB
    rw [hp]
    cases nameB f.name <;> cases ST.okL f.body <;> cases decide (f.params.length ≤ 8) <;> cases f.params.all nameB <;> cases r.any (fun f => !f.headB) <;> simp
theorem PT.rright_eq (p : PT) (h : p.nodes.length ≤ 1048576) : p.rright = p.right := by
  unfold PT.rright PT.right PT.headsB
  rw [PT.rdepth_eq p h, FT.ok_all]
  unfold PT.nodes
  rw [List.all_append, ST.okL_eq]
  congr 1
  cases decide (p.funcs.length ≤ 32) <;> cases p.funcs.any (fun f => !f.headB) <;> cases (FT.nodesL p.funcs).all (·.1) <;> simp
end Go.Proofs.YtplckmpamekloaaDoor
