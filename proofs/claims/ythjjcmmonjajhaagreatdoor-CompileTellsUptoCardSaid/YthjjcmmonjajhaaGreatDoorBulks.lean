/- How many nodes a program has: no more than the bulk of what was read. The numbers of a program that was read are numbers of 64 bits. -/
import Derived.Test.YthjjcmmonjajhaaGreatDoorRows
import Derived.Test.YthjjcmmonjajhaaGreatDoorTreeOpen
import Derived.Test.YthjjcmmonjajhaaGreatDoorTellsAll
namespace Go.Proofs.YthjjcmmonjajhaaGreatDoor
open Go.RowKit Go.Sort Go.ChangeShapes
set_option linter.unusedVariables false
set_option maxRecDepth 100000

theorem bulk_mem {H : Type} (l : List (DataW H)) (f : Nat → Nat) : ∀ (n : Nat), (∀ i, i < n → ∃ x, l[i]? = some x ∧ f i ≤ Rows.uptoBulk x) → ((List.range n).map f).sum ≤ Rows.uptoBulkAll l := by
  induction l generalizing f with
  | nil =>
    intro n h
    cases n with
    | zero => simp
    | succ n => obtain ⟨x, hx, _⟩ := h 0 (by omega); simp at hx
  | cons d r ih =>
    intro n h
    cases n with
    | zero => simp
    | succ n =>
      obtain ⟨x, hx, hf⟩ := h 0 (by omega)
      simp only [List.getElem?_cons_zero, Option.some.injEq] at hx
      subst hx
      have := ih (fun i => f (i + 1)) n (fun i hi => by
        obtain ⟨y, hy, hfy⟩ := h (i + 1) (by omega)
        exact ⟨y, by simpa using hy, hfy⟩)
      rw [List.range_succ_eq_map, List.map_cons, List.sum_cons, List.map_map]
      have e : (f ∘ Nat.succ) = fun i => f (i + 1) := rfl
      rw [e]
      simp only [Rows.uptoBulkAll]
      omega
/-- The elements of a slice that was read, and what they weigh. -/
theorem bulk_elems {H : Type} {enc : TypeId × Value → H} {W : World} {base : Nat} {held : Bool} {fuel : Nat} {v : Value} {y : DataW H × List MemPlace} {t e : TypeId} (ht : Tryz.prog.underlying t = some (.slice e)) (h : DataW.trod enc Tryz.prog W base (fun _ => true) held fuel t [v] = some y)
    (f : Nat → Nat) (hf : ∀ (a : Addr) (len cap n i : Nat) cs' y', v = .slice (some a) len cap → n < fuel → i < len → W.cells? base (a.add (i * Tryz.prog.cellsOf e)) (Tryz.prog.cellsOf e) = some cs' → DataW.trod enc Tryz.prog W base (fun _ => true) held n e cs' = some y' → f i ≤ Rows.uptoBulk y'.1) :
    ∀ n, (v = .slice none 0 0 → n = 0) → (∀ a len cap, v = .slice (some a) len cap → n = len) → ((List.range n).map f).sum ≤ Rows.uptoBulk y.1 := by
  intro n h0 h1
  rcases DataW.trod_slice ht h with ⟨hcs, _⟩ | ⟨a, len, cap, elems, rest, n', hfu, hcs, hy, hb, hl, hm, hlen, hel, _, _⟩
  · rw [h0 (List.cons.inj hcs).1]; simp
  · have hv := (List.cons.inj hcs).1
    rw [h1 _ _ _ hv, hy]
    simp only [Rows.uptoBulk]
    have := bulk_mem (elems.map (·.1)) f len (fun i hi => by
      have hi' := hel i hi
      rw [List.getElem?_eq_getElem (by omega)] at hi'
      obtain ⟨cs', h1, h2⟩ := Option.bind_eq_some_iff.1 hi'
      exact ⟨(elems[i]'(by omega)).1, by rw [List.getElem?_map, List.getElem?_eq_getElem (by omega)]; rfl, hf a len cap n' i cs' _ hv (by omega) hi h1 h2⟩)
    omega
theorem nodesL_sum (l : List ET) (d : Int) : (ET.nodesL l d).length = ((List.range l.length).map fun i => ((l.getD i default).nodes d).length).sum := by
  induction l with
  | nil => rfl
  | cons e r ih =>
    rw [List.length_cons, List.range_succ_eq_map, List.map_cons, List.sum_cons, List.map_map]
    simp only [ET.nodesL, List.length_append, ih]
    rfl
theorem snodesL_sum (l : List ST) (d : Int) : (ST.nodesL l d).length = ((List.range l.length).map fun i => ((l.getD i default).nodes d).length).sum := by
  induction l with
  | nil => rfl
  | cons e r ih =>
    rw [List.length_cons, List.range_succ_eq_map, List.map_cons, List.sum_cons, List.map_map]
    simp only [ST.nodesL, List.length_append, ih]
    rfl
theorem fnodesL_sum (l : List FT) : (FT.nodesL l).length = ((List.range l.length).map fun i => (ST.nodesL (l.getD i default).body 1).length).sum := by
  induction l with
  | nil => rfl
  | cons e r ih =>
    rw [List.length_cons, List.range_succ_eq_map, List.map_cons, List.sum_cons, List.map_map]
    simp only [FT.nodesL, List.flatMap_cons, List.length_append] at ih ⊢
    rw [ih]
    rfl
theorem bulk_agg4 {H : Type} {W : World} {enc : TypeId × Value → H} {base : Nat} {held : Bool} {fuel : Nat} {cs : List Value} {y : DataW H × List MemPlace} (h : DataW.trod enc Tryz.prog W base (fun _ => true) held fuel 51 cs = some y) :
    ∃ n v3 y3, n < fuel ∧ cs[3]? = some v3 ∧ DataW.trod enc Tryz.prog W base (fun _ => true) held n 49 [v3] = some y3 ∧ Rows.uptoBulk y3.1 + 1 ≤ Rows.uptoBulk y.1 := by
  obtain ⟨xs, n, rfl, rfl, hl, hxl, hf⟩ := DataW.trod_struct Tryz.underlying51 h
  have hcN : Tryz.prog.cellsOf 51 = 4 := by kernel_rfl
  have hc_0 : Tryz.prog.cellsOf 49 = 1 := by kernel_rfl
  rw [hcN] at hl
  match cs, hl with
  | [w0, w1, w2, w3], _ =>
    match xs, hxl with
    | [y0, y1, y2, y3], _ =>
      have h3 := hf 3 _ rfl
      simp [hc_0] at h3
      refine ⟨n, w3, y3, Nat.lt_succ_self _, rfl, h3, ?_⟩
      simp only [List.map_cons, List.map_nil, Rows.uptoBulk, Rows.uptoBulkAll]
      omega
theorem bulk_agg6 {H : Type} {W : World} {enc : TypeId × Value → H} {base : Nat} {held : Bool} {fuel : Nat} {cs : List Value} {y : DataW H × List MemPlace} (h : DataW.trod enc Tryz.prog W base (fun _ => true) held fuel 54 cs = some y) :
    ∃ n v3 v4 v5 y3 y4 y5, n < fuel ∧ cs[3]? = some v3 ∧ cs[4]? = some v4 ∧ cs[5]? = some v5 ∧ DataW.trod enc Tryz.prog W base (fun _ => true) held n 49 [v3] = some y3 ∧ DataW.trod enc Tryz.prog W base (fun _ => true) held n 23 [v4] = some y4 ∧ DataW.trod enc Tryz.prog W base (fun _ => true) held n 23 [v5] = some y5 ∧
      Rows.uptoBulk y3.1 + (Rows.uptoBulk y4.1 + Rows.uptoBulk y5.1) + 1 ≤ Rows.uptoBulk y.1 := by
  obtain ⟨xs, n, rfl, rfl, hl, hxl, hf⟩ := DataW.trod_struct Tryz.underlying54 h
  have hcN : Tryz.prog.cellsOf 54 = 6 := by kernel_rfl
  have hc_0 : Tryz.prog.cellsOf 49 = 1 := by kernel_rfl
  have hc_1 : Tryz.prog.cellsOf 23 = 1 := by kernel_rfl
  rw [hcN] at hl
  match cs, hl with
  | [w0, w1, w2, w3, w4, w5], _ =>
    match xs, hxl with
    | [y0, y1, y2, y3, y4, y5], _ =>
      have h3 := hf 3 _ rfl
      have h4 := hf 4 _ rfl
      have h5 := hf 5 _ rfl
      simp [hc_0, hc_1] at h3 h4 h5
      refine ⟨n, w3, w4, w5, y3, y4, y5, Nat.lt_succ_self _, rfl, rfl, rfl, h3, h4, h5, ?_⟩
      simp only [List.map_cons, List.map_nil, Rows.uptoBulk, Rows.uptoBulkAll]
      omega
theorem bulk_agg3 {H : Type} {W : World} {enc : TypeId × Value → H} {base : Nat} {held : Bool} {fuel : Nat} {cs : List Value} {y : DataW H × List MemPlace} (h : DataW.trod enc Tryz.prog W base (fun _ => true) held fuel 67 cs = some y) :
    ∃ n v2 y2, n < fuel ∧ cs[2]? = some v2 ∧ DataW.trod enc Tryz.prog W base (fun _ => true) held n 23 [v2] = some y2 ∧ Rows.uptoBulk y2.1 + 1 ≤ Rows.uptoBulk y.1 := by
  obtain ⟨xs, n, rfl, rfl, hl, hxl, hf⟩ := DataW.trod_struct Tryz.underlying67 h
  have hcN : Tryz.prog.cellsOf 67 = 3 := by kernel_rfl
  have hc_1 : Tryz.prog.cellsOf 23 = 1 := by kernel_rfl
  rw [hcN] at hl
  match cs, hl with
  | [w0, w1, w2], _ =>
    match xs, hxl with
    | [y0, y1, y2], _ =>
      have h2 := hf 2 _ rfl
      simp [hc_1] at h2
      refine ⟨n, w2, y2, Nat.lt_succ_self _, rfl, h2, ?_⟩
      simp only [List.map_cons, List.map_nil, Rows.uptoBulk, Rows.uptoBulkAll]
      omega
/-- A cell of an element that was read, and what lies there. -/
theorem cells_here {W : World} {base : Nat} {b off k c i : Nat} {cs : List Value} (h : W.cells? base ((⟨b, off, none⟩ : Addr).add k) c = some cs) {v v' : Value} (hv : cs[i]? = some v) (hi : i < c) (h' : W.cell? ⟨b, off + k + i, none⟩ = some v') : v = v' := by
  obtain ⟨_, hl, hat⟩ := World.cells?_some h
  have h1 := hat i (by omega)
  rw [addr_add, addr_add, h'] at h1
  have h2 : cs[i]? = some (cs[i]'(by omega)) := List.getElem?_eq_getElem _
  exact Option.some.inj (hv.symm.trans (by first | exact h1.symm | exact h2.trans h1.symm))
theorem bulk_es {H : Type} {enc : TypeId × Value → H} {W : World} {base : Nat} {held : Bool} : ∀ (fuel : Nat) (v : Value) (y : DataW H × List MemPlace), DataW.trod enc Tryz.prog W base (fun _ => true) held fuel 49 [v] = some y → ∀ l, ESl W v l → ∀ d, (ET.nodesL l d).length ≤ Rows.uptoBulk y.1 := by
  intro fuel
  induction fuel using Nat.strongRecOn with
  | _ fuel ih =>
    intro v y h l hl d
    cases hl with
    | mk a b off cap l f ha hc hm hcell hsub =>
      rw [nodesL_sum]
      have hcN : Tryz.prog.cellsOf 51 = 4 := by kernel_rfl
      refine bulk_elems Tryz.underlying49 h _ ?_ _ ?_ ?_
      · intro ad len cap' n i cs' y' hv hn hi hcs ht
        cases hv
        cases ha (by omega)
        rw [hcN] at hcs
        obtain ⟨n', v3, y3, hn', h3, ht3, hle⟩ := bulk_agg4 ht
        have e3 := cells_here hcs h3 (by omega) (hcell i hi).2.2.2
        subst e3
        have := ih n' (by omega) _ y3 ht3 _ (hsub i hi) (wrap64 (d + 1))
        rw [ET.nodes_eq, List.length_cons]
        omega
      · intro hv; injection hv
      · intro ad len cap' hv; injection hv
theorem bulk_ss {H : Type} {enc : TypeId × Value → H} {W : World} {base : Nat} {held : Bool} : ∀ (fuel : Nat) (v : Value) (y : DataW H × List MemPlace), DataW.trod enc Tryz.prog W base (fun _ => true) held fuel 23 [v] = some y → ∀ l, SSl W v l → ∀ d, (ST.nodesL l d).length ≤ Rows.uptoBulk y.1 := by
  intro fuel
  induction fuel using Nat.strongRecOn with
  | _ fuel ih =>
    intro v y h l hl d
    cases hl with
    | mk a b off cap l f g hh ha hc hm hcell he hb hx =>
      rw [snodesL_sum]
      have hcN : Tryz.prog.cellsOf 54 = 6 := by kernel_rfl
      refine bulk_elems Tryz.underlying23 h _ ?_ _ ?_ ?_
      · intro ad len cap' n i cs' y' hv hn hi hcs ht
        cases hv
        cases ha (by omega)
        rw [hcN] at hcs
        obtain ⟨n', v3, v4, v5, y3, y4, y5, hn', h3, h4, h5, ht3, ht4, ht5, hle⟩ := bulk_agg6 ht
        have e3 := cells_here hcs h3 (by omega) (hcell i hi).2.2.2.1
        have e4 := cells_here hcs h4 (by omega) (hcell i hi).2.2.2.2.1
        have e5 := cells_here hcs h5 (by omega) (hcell i hi).2.2.2.2.2
        subst e3 e4 e5
        have z3 := bulk_es n' _ y3 ht3 _ (he i hi) (wrap64 (d + 1))
        have z4 := ih n' (by omega) _ y4 ht4 _ (hb i hi) (wrap64 (d + 1))
        have z5 := ih n' (by omega) _ y5 ht5 _ (hx i hi) (wrap64 (d + 1))
        rw [ST.nodes_eq, List.length_cons, List.length_append, List.length_append]
        omega
      · intro hv; injection hv
      · intro ad len cap' hv; injection hv
theorem bulk_fs {H : Type} {enc : TypeId × Value → H} {W : World} {base : Nat} {held : Bool} (fuel : Nat) (v : Value) (y : DataW H × List MemPlace) (h : DataW.trod enc Tryz.prog W base (fun _ => true) held fuel 22 [v] = some y) (l : List FT) (hl : FSl W v l) : (FT.nodesL l).length ≤ Rows.uptoBulk y.1 := by
  cases hl with
  | mk a b off cap l f g ha hc hm hcell ht hb =>
    rw [fnodesL_sum]
    have hcN : Tryz.prog.cellsOf 67 = 3 := by kernel_rfl
    refine bulk_elems Tryz.underlying22 h _ ?_ _ ?_ ?_
    · intro ad len cap' n i cs' y' hv hn hi hcs ht'
      cases hv
      cases ha (by omega)
      rw [hcN] at hcs
      obtain ⟨n', v2, y2, hn', h2, ht2, hle⟩ := bulk_agg3 ht'
      have e2 := cells_here hcs h2 (by omega) (hcell i hi).2.2
      subst e2
      have := bulk_ss n' _ y2 ht2 _ (hb i hi) 1
      omega
    · intro hv; injection hv
    · intro ad len cap' hv; injection hv
/-- A program that was read has no more nodes than its bulk. -/
theorem bulk_prog {H : Type} {enc : TypeId × Value → H} {W : World} {b0 : Nat} {r : Reach} {pa qa : Option Addr} {pn pk qn qk : Nat} {P : PT} {d : DataW H} {pl : List MemPlace} (hv : Value.okWide Tryz.prog W r b0 25 (.agg #[.slice pa pn pk, .slice qa qn qk])) (h : DataW.Trod enc Tryz.prog W 0 (fun _ => true) true 25 (.agg #[.slice pa pn pk, .slice qa qn qk]) d pl) (hP : PR W (.slice pa pn pk) (.slice qa qn qk) P) : P.nodes.length ≤ Rows.uptoBulk d := by
  obtain ⟨c0, c1, y0, y1, n, hv, rfl, rfl, h0, h1⟩ := Joins.open_agg2 Tryz.underlying25 (by kernel_rfl) (by kernel_rfl) hv h
  have e0 := congrArg (fun v => v.cells[0]?) hv
  have e1 := congrArg (fun v => v.cells[1]?) hv
  simp [Value.cells] at e0 e1
  subst e0 e1
  have z0 := bulk_fs n _ y0 h0 _ hP.1
  have z1 := bulk_ss n _ y1 h1 _ hP.2 1
  simp only [Rows.uptoBulk, Rows.uptoBulkAll]
  unfold PT.nodes
  rw [List.length_append]
  omega
end Go.Proofs.YthjjcmmonjajhaaGreatDoor
namespace Go.Proofs.YthjjcmmonjajhaaGreatDoor
open Go.RowKit Go.Sort Go.ChangeShapes
set_option linter.unusedVariables false
set_option maxRecDepth 100000

mutual
def ET.numB : ET → Bool
  | .mk _ n _ l => decide (n ≤ 9223372036854775807) && ET.numL l
def ET.numL : List ET → Bool
  | [] => true
  | e :: r => ET.numB e && ET.numL r
end
mutual
def ST.numB : ST → Bool
  | .mk _ _ _ l b e => ET.numL l && (ST.numL b && ST.numL e)
def ST.numL : List ST → Bool
  | [] => true
  | e :: r => ST.numB e && ST.numL r
end
def PT.numP (p : PT) : Prop := (∀ i, i < p.funcs.length → ST.numL (p.funcs.getD i default).body = true) ∧ ST.numL p.main = true
theorem ET.numL_iff (l : List ET) : ET.numL l = true ↔ ∀ i, i < l.length → (l.getD i default).numB = true := by
  induction l with
  | nil => simp [ET.numL]
  | cons e r ih =>
    simp only [ET.numL, Bool.and_eq_true, List.length_cons]
    rw [ih]
    constructor
    · rintro ⟨h1, h2⟩ i hi
      cases i with
      | zero => exact h1
      | succ i => exact h2 i (by omega)
    · intro h
      exact ⟨h 0 (by omega), fun i hi => h (i + 1) (by omega)⟩
theorem ST.numL_iff (l : List ST) : ST.numL l = true ↔ ∀ i, i < l.length → (l.getD i default).numB = true := by
  induction l with
  | nil => simp [ST.numL]
  | cons e r ih =>
    simp only [ST.numL, Bool.and_eq_true, List.length_cons]
    rw [ih]
    constructor
    · rintro ⟨h1, h2⟩ i hi
      cases i with
      | zero => exact h1
      | succ i => exact h2 i (by omega)
    · intro h
      exact ⟨h 0 (by omega), fun i hi => h (i + 1) (by omega)⟩
theorem ET.numB_parts (e : ET) : e.numB = (decide (e.num ≤ 9223372036854775807) && ET.numL e.parts) := by cases e; rfl
theorem ST.numB_parts (e : ST) : e.numB = (ET.numL e.parts && (ST.numL e.body && ST.numL e.els)) := by cases e; rfl
theorem num_agg4 {H : Type} {W : World} {enc : TypeId × Value → H} {base : Nat} {held : Bool} {fuel : Nat} {cs : List Value} {y : DataW H × List MemPlace} (h : DataW.trod enc Tryz.prog W base (fun _ => true) held fuel 51 cs = some y) :
    ∃ n o1 v3 y3, n < fuel ∧ cs[1]? = some (.int .i64 o1) ∧ o1 ≤ 9223372036854775807 ∧ cs[3]? = some v3 ∧ DataW.trod enc Tryz.prog W base (fun _ => true) held n 49 [v3] = some y3 := by
  obtain ⟨xs, n, rfl, rfl, hl, hxl, hf⟩ := DataW.trod_struct Tryz.underlying51 h
  have hcN : Tryz.prog.cellsOf 51 = 4 := by kernel_rfl
  have hc_0 : Tryz.prog.cellsOf 49 = 1 := by kernel_rfl
  have hc_1 : Tryz.prog.cellsOf 2 = 1 := by kernel_rfl
  rw [hcN] at hl
  match cs, hl with
  | [w0, w1, w2, w3], _ =>
    match xs, hxl with
    | [y0, y1, y2, y3], _ =>
      have h1 := hf 1 _ rfl
      have h3 := hf 3 _ rfl
      simp [hc_0, hc_1] at h1 h3
      obtain ⟨n1, e1, _, hw⟩ := DataW.trod_int Tryz.underlying2 h1
      cases e1
      refine ⟨n, n1, w3, y3, Nat.lt_succ_self _, rfl, ?_, rfl, h3⟩
      have h2 := hw
      simp [Lit.wf, IntKind.min, IntKind.max, IntKind.signed, IntKind.bits] at h2
      omega
theorem slice_pos {a a' : Option Addr} {n k n' k' : Nat} (h : Value.slice a n k = .slice a' n' k') : a = a' ∧ n = n' ∧ k = k' := by cases h; exact ⟨rfl, rfl, rfl⟩
theorem num_es {H : Type} {enc : TypeId × Value → H} {W : World} {base : Nat} {held : Bool} : ∀ (fuel : Nat) (v : Value) (y : DataW H × List MemPlace), DataW.trod enc Tryz.prog W base (fun _ => true) held fuel 49 [v] = some y → ∀ l, ESl W v l → ET.numL l = true := by
  intro fuel
  induction fuel using Nat.strongRecOn with
  | _ fuel ih =>
    intro v y h l hl
    cases hl with
    | mk a b off cap l f ha hc hm hcell hsub =>
      rw [ET.numL_iff]
      intro i hi
      have hcN : Tryz.prog.cellsOf 51 = 4 := by kernel_rfl
      rcases open_elems Tryz.underlying49 h with hv | ⟨a', len, cap', n, hn, hv, _, _, hel⟩
      · have := (slice_pos hv).2.1
        omega
      · obtain ⟨rfl, rfl, rfl⟩ := slice_pos hv
        have e0 : (⟨b, off, none⟩ : Addr) = a' := (Option.some.inj (ha (by omega))).symm
        subst e0
        obtain ⟨cs', y', hcs, ht⟩ := hel i hi
        rw [hcN] at hcs
        obtain ⟨n', o1, v3, y3, hn', h1, hle, h3, ht3⟩ := num_agg4 ht
        have e1 := cells_here hcs h1 (by omega) (hcell i hi).2.1
        have e3 := cells_here hcs h3 (by omega) (hcell i hi).2.2.2
        subst e3
        cases e1
        rw [ET.numB_parts, decide_eq_true hle, ih n' (by omega) _ y3 ht3 _ (hsub i hi)]; rfl
theorem num_ss {H : Type} {enc : TypeId × Value → H} {W : World} {base : Nat} {held : Bool} : ∀ (fuel : Nat) (v : Value) (y : DataW H × List MemPlace), DataW.trod enc Tryz.prog W base (fun _ => true) held fuel 23 [v] = some y → ∀ l, SSl W v l → ST.numL l = true := by
  intro fuel
  induction fuel using Nat.strongRecOn with
  | _ fuel ih =>
    intro v y h l hl
    cases hl with
    | mk a b off cap l f g hh ha hc hm hcell he hb hx =>
      rw [ST.numL_iff]
      intro i hi
      have hcN : Tryz.prog.cellsOf 54 = 6 := by kernel_rfl
      rcases open_elems Tryz.underlying23 h with hv | ⟨a', len, cap', n, hn, hv, _, _, hel⟩
      · have := (slice_pos hv).2.1
        omega
      · obtain ⟨rfl, rfl, rfl⟩ := slice_pos hv
        have e0 : (⟨b, off, none⟩ : Addr) = a' := (Option.some.inj (ha (by omega))).symm
        subst e0
        obtain ⟨cs', y', hcs, ht⟩ := hel i hi
        rw [hcN] at hcs
        obtain ⟨n', v3, v4, v5, y3, y4, y5, hn', h3, h4, h5, ht3, ht4, ht5, hle⟩ := bulk_agg6 ht
        have e3 := cells_here hcs h3 (by omega) (hcell i hi).2.2.2.1
        have e4 := cells_here hcs h4 (by omega) (hcell i hi).2.2.2.2.1
        have e5 := cells_here hcs h5 (by omega) (hcell i hi).2.2.2.2.2
        subst e3 e4 e5
        rw [ST.numB_parts, num_es n' _ y3 ht3 _ (he i hi), ih n' (by omega) _ y4 ht4 _ (hb i hi), ih n' (by omega) _ y5 ht5 _ (hx i hi)]; rfl
theorem num_fs {H : Type} {enc : TypeId × Value → H} {W : World} {base : Nat} {held : Bool} (fuel : Nat) (v : Value) (y : DataW H × List MemPlace) (h : DataW.trod enc Tryz.prog W base (fun _ => true) held fuel 22 [v] = some y) (l : List FT) (hl : FSl W v l) : ∀ i, i < l.length → ST.numL (l.getD i default).body = true := by
  cases hl with
  | mk a b off cap l f g ha hc hm hcell ht hb =>
    intro i hi
    have hcN : Tryz.prog.cellsOf 67 = 3 := by kernel_rfl
    rcases open_elems Tryz.underlying22 h with hv | ⟨a', len, cap', n, hn, hv, _, _, hel⟩
    · have := (slice_pos hv).2.1
      omega
    · obtain ⟨rfl, rfl, rfl⟩ := slice_pos hv
      have e0 : (⟨b, off, none⟩ : Addr) = a' := (Option.some.inj (ha (by omega))).symm
      subst e0
      obtain ⟨cs', y', hcs, ht'⟩ := hel i hi
      rw [hcN] at hcs
      obtain ⟨n', v2, y2, hn', h2, ht2, hle⟩ := bulk_agg3 ht'
      have e2 := cells_here hcs h2 (by omega) (hcell i hi).2.2
      subst e2
      exact num_ss n' _ y2 ht2 _ (hb i hi)
theorem num_prog {H : Type} {enc : TypeId × Value → H} {W : World} {b0 : Nat} {r : Reach} {pa qa : Option Addr} {pn pk qn qk : Nat} {P : PT} {d : DataW H} {pl : List MemPlace} (hv : Value.okWide Tryz.prog W r b0 25 (.agg #[.slice pa pn pk, .slice qa qn qk])) (h : DataW.Trod enc Tryz.prog W 0 (fun _ => true) true 25 (.agg #[.slice pa pn pk, .slice qa qn qk]) d pl) (hP : PR W (.slice pa pn pk) (.slice qa qn qk) P) : P.numP := by
  obtain ⟨c0, c1, y0, y1, n, hv, rfl, rfl, h0, h1⟩ := Joins.open_agg2 Tryz.underlying25 (by kernel_rfl) (by kernel_rfl) hv h
  have e0 := congrArg (fun v => v.cells[0]?) hv
  have e1 := congrArg (fun v => v.cells[1]?) hv
  simp [Value.cells] at e0 e1
  subst e0 e1
  exact ⟨num_fs n _ y0 h0 _ hP.1, num_ss n _ y1 h1 _ hP.2⟩
end Go.Proofs.YthjjcmmonjajhaaGreatDoor
