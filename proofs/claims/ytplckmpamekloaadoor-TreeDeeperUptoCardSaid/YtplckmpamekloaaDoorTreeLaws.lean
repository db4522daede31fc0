/- What is right, part by part. -/
import Derived.Test.YtplckmpamekloaaDoorTreePure
namespace Go.Proofs.YtplckmpamekloaaDoor
open Go.RowKit Go.Sort
set_option linter.unusedVariables false

def okN (l : List (Bool × Int)) : Prop := ∀ x ∈ l, x.1 = true ∧ x.2 ≤ 64
theorem okN_nil : okN [] := fun x h => by cases h
theorem okN_cons {x : Bool × Int} {l : List (Bool × Int)} : okN (x :: l) ↔ (x.1 = true ∧ x.2 ≤ 64) ∧ okN l := by simp [okN]
theorem okN_append {l r : List (Bool × Int)} : okN (l ++ r) ↔ okN l ∧ okN r := by
  constructor
  · exact fun h => ⟨fun x hx => h x (List.mem_append.2 (.inl hx)), fun x hx => h x (List.mem_append.2 (.inr hx))⟩
  · exact fun h x hx => (List.mem_append.1 hx).elim (h.1 x) (h.2 x)
theorem foldl_max (l : List (Bool × Int)) : ∀ n : Int, l.foldl (fun n x => max n x.2) n ≤ 64 ↔ n ≤ 64 ∧ ∀ x ∈ l, x.2 ≤ 64 := by
  induction l with
  | nil => intro n; simp
  | cons a l ih => intro n; rw [List.foldl_cons, ih]; simp only [List.mem_cons, forall_eq_or_imp]; rw [Int.max_le, and_assoc]
theorem right_zero (p : PT) : p.right = 0 ↔ p.headsB = true ∧ okN p.nodes := by
  have hd : p.depth ≤ 64 ↔ ∀ x ∈ p.nodes, x.2 ≤ 64 := by
    unfold PT.depth depthF; rw [foldl_max]; simp
  have ha : p.nodes.all (·.1) = true ↔ ∀ x ∈ p.nodes, x.1 = true := List.all_eq_true
  unfold PT.right
  cases h1 : p.headsB with
  | false => simp
  | true =>
    cases h2 : p.nodes.all (·.1) with
    | false =>
      simp only [Bool.and_false, Bool.false_eq_true, if_false, true_and]
      refine ⟨fun h => by omega, fun h => ?_⟩
      have := ha.2 (fun x hx => (h x hx).1)
      rw [h2] at this; cases this
    | true =>
      simp only [Bool.and_true, if_true, true_and]
      have h3 := ha.1 h2
      by_cases h : 64 < p.depth
      · rw [if_pos h]; refine ⟨fun h => by omega, fun h' => ?_⟩
        have := hd.2 (fun x hx => (h' x hx).2); omega
      · rw [if_neg h]; exact ⟨fun _ x hx => ⟨h3 x hx, hd.1 (by omega) x hx⟩, fun _ => rfl⟩
theorem w64 (x : Int) (h0 : 0 ≤ x) (h1 : x ≤ 9000000000000000000) : wrap64 x = x := by
  unfold wrap64; omega
theorem w12 : wrap64 (1 + 1) = 2 := w64 2 (by omega) (by omega)
mutual
theorem ET.mono : ∀ (e : ET) (d d' : Int), 0 ≤ d' → d' ≤ d → okN (ET.nodes e d) → okN (ET.nodes e d')
  | .mk o n s l, d, d', h0, h1, h => by
    unfold ET.nodes at h ⊢
    rw [okN_cons] at h ⊢
    obtain ⟨⟨ha, hb⟩, hc⟩ := h
    dsimp only at ha hb
    rw [w64 _ (by omega) (by omega)] at hc
    rw [w64 _ (by omega) (by omega)]
    exact ⟨⟨ha, by show d' ≤ 64; omega⟩, ET.monoL l (d + 1) (d' + 1) (by omega) (by omega) hc⟩
theorem ET.monoL : ∀ (l : List ET) (d d' : Int), 0 ≤ d' → d' ≤ d → okN (ET.nodesL l d) → okN (ET.nodesL l d')
  | [], _, _, _, _, _ => okN_nil
  | e :: r, d, d', h0, h1, h => by
    unfold ET.nodesL at h ⊢
    rw [okN_append] at h ⊢
    exact ⟨ET.mono e d d' h0 h1 h.1, ET.monoL r d d' h0 h1 h.2⟩
end
mutual
theorem ST.mono : ∀ (e : ST) (d d' : Int), 0 ≤ d' → d' ≤ d → okN (ST.nodes e d) → okN (ST.nodes e d')
  | .mk o n s l b es, d, d', h0, h1, h => by
    unfold ST.nodes at h ⊢
    rw [okN_cons, okN_append, okN_append] at h ⊢
    obtain ⟨⟨ha, hb⟩, hc, hd, he⟩ := h
    dsimp only at ha hb
    rw [w64 _ (by omega) (by omega)] at hc hd he
    rw [w64 _ (by omega) (by omega)]
    exact ⟨⟨ha, by show d' ≤ 64; omega⟩, ET.monoL l (d + 1) (d' + 1) (by omega) (by omega) hc, ST.monoL b (d + 1) (d' + 1) (by omega) (by omega) hd, ST.monoL es (d + 1) (d' + 1) (by omega) (by omega) he⟩
theorem ST.monoL : ∀ (l : List ST) (d d' : Int), 0 ≤ d' → d' ≤ d → okN (ST.nodesL l d) → okN (ST.nodesL l d')
  | [], _, _, _, _, _ => okN_nil
  | e :: r, d, d', h0, h1, h => by
    unfold ST.nodesL at h ⊢
    rw [okN_append] at h ⊢
    exact ⟨ST.mono e d d' h0 h1 h.1, ST.monoL r d d' h0 h1 h.2⟩
end
theorem ET.nodesL_all {l : List ET} {d : Int} : okN (ET.nodesL l d) ↔ ∀ i, i < l.length → okN (ET.nodes (l.getD i default) d) := by
  induction l with
  | nil => simp [ET.nodesL, okN_nil]
  | cons a l ih =>
    unfold ET.nodesL
    rw [okN_append, ih]
    constructor
    · rintro ⟨h1, h2⟩ i hi
      cases i with
      | zero => exact h1
      | succ i => exact h2 i (by simpa using hi)
    · exact fun h => ⟨h 0 (by simp), fun i hi => h (i + 1) (by simpa using hi)⟩
theorem ST.nodesL_all {l : List ST} {d : Int} : okN (ST.nodesL l d) ↔ ∀ i, i < l.length → okN (ST.nodes (l.getD i default) d) := by
  induction l with
  | nil => simp [ST.nodesL, okN_nil]
  | cons a l ih =>
    unfold ST.nodesL
    rw [okN_append, ih]
    constructor
    · rintro ⟨h1, h2⟩ i hi
      cases i with
      | zero => exact h1
      | succ i => exact h2 i (by simpa using hi)
    · exact fun h => ⟨h 0 (by simp), fun i hi => h (i + 1) (by simpa using hi)⟩
theorem FT.nodesL_all {l : List FT} : okN (FT.nodesL l) ↔ ∀ i, i < l.length → okN (ST.nodesL (l.getD i default).body 1) := by
  induction l with
  | nil => simp [FT.nodesL, okN_nil]
  | cons a l ih =>
    rw [show FT.nodesL (a :: l) = ST.nodesL a.body 1 ++ FT.nodesL l by simp [FT.nodesL], okN_append, ih]
    constructor
    · rintro ⟨h1, h2⟩ i hi
      cases i with
      | zero => exact h1
      | succ i => exact h2 i (by simpa using hi)
    · exact fun h => ⟨h 0 (by simp), fun i hi => h (i + 1) (by simpa using hi)⟩
theorem heads_nil (m : List ST) : PT.headsB ⟨[], m⟩ = true := rfl
theorem main_zero (m : List ST) : PT.right ⟨[], m⟩ = 0 ↔ okN (ST.nodesL m 1) := by
  rw [right_zero]; simp [heads_nil, PT.nodes, FT.nodesL]
/-- The parts of what is right. -/
theorem parts_take (p : PT) (h : p.right = 0) (n : Nat) : PT.right ⟨[], p.main.take n⟩ = 0 := by
  rw [right_zero] at h
  have h2 := (okN_append.1 h.2).2
  rw [main_zero]
  have : okN (ST.nodesL (p.main.take n ++ p.main.drop n) 1) := by rw [List.take_append_drop]; exact h2
  rw [ST.nodesL_append, okN_append] at this
  exact this.1
theorem parts_funcs (p : PT) (h : p.right = 0) : PT.right ⟨p.funcs, []⟩ = 0 := by
  rw [right_zero] at h ⊢
  refine ⟨h.1, ?_⟩
  show okN (FT.nodesL p.funcs ++ ST.nodesL [] 1)
  rw [okN_append]; exact ⟨(okN_append.1 h.2).1, okN_nil⟩
theorem parts_depth (p : PT) (h : p.right = 0) : p.depth ≤ 64 := by
  rw [right_zero] at h
  unfold PT.depth depthF; rw [foldl_max]
  exact ⟨by omega, fun x hx => (h.2 x hx).2⟩
theorem parts_body (p : PT) (h : p.right = 0) (i : Nat) (hi : i < p.funcs.length) : PT.right ⟨[], (p.funcs.getD i default).body⟩ = 0 := by
  rw [right_zero] at h
  rw [main_zero]
  exact FT.nodesL_all.1 (okN_append.1 h.2).1 i hi
theorem parts_stmt (p : PT) (h : p.right = 0) (i : Nat) (hi : i < p.main.length) : okN (ET.nodesL (p.main.getD i default).parts 2) ∧ okN (ST.nodesL (p.main.getD i default).body 2) ∧ okN (ST.nodesL (p.main.getD i default).els 2) := by
  rw [right_zero] at h
  have := ST.nodesL_all.1 (okN_append.1 h.2).2 i hi
  rw [ST.nodes_eq, okN_cons, okN_append, okN_append, w12] at this
  exact this.2
theorem parts_main_body (p : PT) (h : p.right = 0) (i : Nat) (hi : i < p.main.length) : PT.right ⟨[], (p.main.getD i default).body⟩ = 0 ∧ PT.right ⟨[], (p.main.getD i default).els⟩ = 0 := by
  obtain ⟨_, h1, h2⟩ := parts_stmt p h i hi
  rw [main_zero, main_zero]
  exact ⟨ST.monoL _ 2 1 (by omega) (by omega) h1, ST.monoL _ 2 1 (by omega) (by omega) h2⟩
theorem parts_expr (p : PT) (h : p.right = 0) (i : Nat) (hi : i < p.main.length) (k : Nat) (hk : k < (p.main.getD i default).parts.length) : PT.right ⟨[], [.mk 5 0 ⟨#[]⟩ [(p.main.getD i default).parts.getD k default] [] []]⟩ = 0 := by
  obtain ⟨h1, _, _⟩ := parts_stmt p h i hi
  have := ET.nodesL_all.1 h1 k hk
  rw [main_zero]
  unfold ST.nodesL ST.nodes ET.nodesL ET.nodesL ST.nodesL
  rw [List.append_nil, okN_cons, okN_append, List.append_nil, w12]
  exact ⟨⟨(by decide +kernel : stmtB 5 0 ⟨#[]⟩ 1 0 0 = true), (by decide : (1 : Int) ≤ 64)⟩, this, by simp [okN]⟩
end Go.Proofs.YtplckmpamekloaaDoor
