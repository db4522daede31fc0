/- The numbers of a program that was read are numbers of 64 bits. -/
import Derived.Test.YtplckmpamekloaaDoorTreeBulk
namespace Go.Proofs.YtplckmpamekloaaDoor
open Go.RowKit Go.Sort Go.ChangeShapes
set_option linter.unusedVariables false

mutual
def ET.numB : ET → Bool
  | .mk _ n _ l => decide (n ≤ 9223372036854775807) && ET.numL l
def ET.numL : List ET → Bool
  | [] => true
  | e :: r => ET.numB e && ET.numL r
end
mutual
def ST.numB : ST → Bool
  | .mk _ _ _ l b e => ET.numL l && (ST.numL b && ST.numL e)
def ST.numL : List ST → Bool
  | [] => true
  | e :: r => ST.numB e && ST.numL r
end
def PT.numP (p : PT) : Prop := (∀ i, i < p.funcs.length → ST.numL (p.funcs.getD i default).body = true) ∧ ST.numL p.main = true
theorem ET.numL_iff (l : List ET) : ET.numL l = true ↔ ∀ i, i < l.length → (l.getD i default).numB = true := by
  induction l with
  | nil => simp [ET.numL]
  | cons e r ih =>
    simp only [ET.numL, Bool.and_eq_true, List.length_cons]
    rw [ih]
    constructor
    · rintro ⟨h1, h2⟩ i hi
      cases i with
      | zero => exact h1
      | succ i => exact h2 i (by omega)
    · intro h
      exact ⟨h 0 (by omega), fun i hi => h (i + 1) (by omega)⟩
theorem ST.numL_iff (l : List ST) : ST.numL l = true ↔ ∀ i, i < l.length → (l.getD i default).numB = true := by
  induction l with
  | nil => simp [ST.numL]
  | cons e r ih =>
    simp only [ST.numL, Bool.and_eq_true, List.length_cons]
    rw [ih]
    constructor
    · rintro ⟨h1, h2⟩ i hi
      cases i with
      | zero => exact h1
      | succ i => exact h2 i (by omega)
    · intro h
      exact ⟨h 0 (by omega), fun i hi => h (i + 1) (by omega)⟩
theorem ET.numB_parts (e : ET) : e.numB = (decide (e.num ≤ 9223372036854775807) && ET.numL e.parts) := by cases e; rfl
theorem ST.numB_parts (e : ST) : e.numB = (ET.numL e.parts && (ST.numL e.body && ST.numL e.els)) := by cases e; rfl
theorem num_agg4 {H : Type} {W : World} {enc : TypeId × Value → H} {base : Nat} {held : Bool} {fuel : Nat} {cs : List Value} {y : DataW H × List MemPlace} (h : DataW.trod enc Tryd.prog W base (fun _ => true) held fuel 41 cs = some y) :
    ∃ n o1 v3 y3, n < fuel ∧ cs[1]? = some (.int .i64 o1) ∧ o1 ≤ 9223372036854775807 ∧ cs[3]? = some v3 ∧ DataW.trod enc Tryd.prog W base (fun _ => true) held n 36 [v3] = some y3 := by
  obtain ⟨xs, n, rfl, rfl, hl, hxl, hf⟩ := DataW.trod_struct Tryd.underlying41 h
  have hcN : Tryd.prog.cellsOf 41 = 4 := by kernel_rfl
  have hc_0 : Tryd.prog.cellsOf 36 = 1 := by kernel_rfl
  have hc_1 : Tryd.prog.cellsOf 2 = 1 := by kernel_rfl
  rw [hcN] at hl
  match cs, hl with
  | [w0, w1, w2, w3], _ =>
    match xs, hxl with
    | [y0, y1, y2, y3], _ =>
      have h1 := hf 1 _ rfl
      have h3 := hf 3 _ rfl
      simp [hc_0, hc_1] at h1 h3
      obtain ⟨n1, e1, _, hw⟩ := DataW.trod_int Tryd.underlying2 h1
      cases e1
      refine ⟨n, n1, w3, y3, Nat.lt_succ_self _, rfl, ?_, rfl, h3⟩
      have h2 := hw
      simp [Lit.wf, IntKind.min, IntKind.max, IntKind.signed, IntKind.bits] at h2
      omega
theorem slice_pos {a a' : Option Addr} {n k n' k' : Nat} (h : Value.slice a n k = .slice a' n' k') : a = a' ∧ n = n' ∧ k = k' := by cases h; exact ⟨rfl, rfl, rfl⟩
theorem num_es {H : Type} {enc : TypeId × Value → H} {W : World} {base : Nat} {held : Bool} : ∀ (fuel : Nat) (v : Value) (y : DataW H × List MemPlace), DataW.trod enc Tryd.prog W base (fun _ => true) held fuel 36 [v] = some y → ∀ l, ESl W v l → ET.numL l = true := by
  intro fuel
  induction fuel using Nat.strongRecOn with
  | _ fuel ih =>
    intro v y h l hl
    cases hl with
    | mk a b off cap l f ha hc hm hcell hsub =>
      rw [ET.numL_iff]
      intro i hi
      have hcN : Tryd.prog.cellsOf 41 = 4 := by kernel_rfl
      rcases open_elems Tryd.underlying36 h with hv | ⟨a', len, cap', n, hn, hv, _, _, hel⟩
      · have := (slice_pos hv).2.1
        omega
      · obtain ⟨rfl, rfl, rfl⟩ := slice_pos hv
        have e0 : (⟨b, off, none⟩ : Addr) = a' := (Option.some.inj (ha (by omega))).symm
        subst e0
        obtain ⟨cs', y', hcs, ht⟩ := hel i hi
        rw [hcN] at hcs
        obtain ⟨n', o1, v3, y3, hn', h1, hle, h3, ht3⟩ := num_agg4 ht
        have e1 := cells_here hcs h1 (by omega) (hcell i hi).2.1
        have e3 := cells_here hcs h3 (by omega) (hcell i hi).2.2.2
        subst e3
        cases e1
        rw [ET.numB_parts, decide_eq_true hle, ih n' (by omega) _ y3 ht3 _ (hsub i hi)]; rfl
theorem num_ss {H : Type} {enc : TypeId × Value → H} {W : World} {base : Nat} {held : Bool} : ∀ (fuel : Nat) (v : Value) (y : DataW H × List MemPlace), DataW.trod enc Tryd.prog W base (fun _ => true) held fuel 23 [v] = some y → ∀ l, SSl W v l → ST.numL l = true := by
  intro fuel
  induction fuel using Nat.strongRecOn with
  | _ fuel ih =>
    intro v y h l hl
    cases hl with
    | mk a b off cap l f g hh ha hc hm hcell he hb hx =>
      rw [ST.numL_iff]
      intro i hi
      have hcN : Tryd.prog.cellsOf 38 = 6 := by kernel_rfl
      rcases open_elems Tryd.underlying23 h with hv | ⟨a', len, cap', n, hn, hv, _, _, hel⟩
      · have := (slice_pos hv).2.1
        omega
      · obtain ⟨rfl, rfl, rfl⟩ := slice_pos hv
        have e0 : (⟨b, off, none⟩ : Addr) = a' := (Option.some.inj (ha (by omega))).symm
        subst e0
        obtain ⟨cs', y', hcs, ht⟩ := hel i hi
        rw [hcN] at hcs
        obtain ⟨n', v3, v4, v5, y3, y4, y5, hn', h3, h4, h5, ht3, ht4, ht5, hle⟩ := bulk_agg6 ht
        have e3 := cells_here hcs h3 (by omega) (hcell i hi).2.2.2.1
        have e4 := cells_here hcs h4 (by omega) (hcell i hi).2.2.2.2.1
        have e5 := cells_here hcs h5 (by omega) (hcell i hi).2.2.2.2.2
        subst e3 e4 e5
        rw [ST.numB_parts, num_es n' _ y3 ht3 _ (he i hi), ih n' (by omega) _ y4 ht4 _ (hb i hi), ih n' (by omega) _ y5 ht5 _ (hx i hi)]; rfl
theorem num_fs {H : Type} {enc : TypeId × Value → H} {W : World} {base : Nat} {held : Bool} (fuel : Nat) (v : Value) (y : DataW H × List MemPlace) (h : DataW.trod enc Tryd.prog W base (fun _ => true) held fuel 22 [v] = some y) (l : List FT) (hl : FSl W v l) : ∀ i, i < l.length → ST.numL (l.getD i default).body = true := by
  cases hl with
  | mk a b off cap l f g ha hc hm hcell ht hb =>
    intro i hi
    have hcN : Tryd.prog.cellsOf 35 = 3 := by kernel_rfl
    rcases open_elems Tryd.underlying22 h with hv | ⟨a', len, cap', n, hn, hv, _, _, hel⟩
    · have := (slice_pos hv).2.1
      omega
    · obtain ⟨rfl, rfl, rfl⟩ := slice_pos hv
      have e0 : (⟨b, off, none⟩ : Addr) = a' := (Option.some.inj (ha (by omega))).symm
      subst e0
      obtain ⟨cs', y', hcs, ht'⟩ := hel i hi
      rw [hcN] at hcs
      obtain ⟨n', v2, y2, hn', h2, ht2, hle⟩ := bulk_agg3 ht'
      have e2 := cells_here hcs h2 (by omega) (hcell i hi).2.2
      subst e2
      exact num_ss n' _ y2 ht2 _ (hb i hi)
theorem num_prog {H : Type} {enc : TypeId × Value → H} {W : World} {b0 : Nat} {r : Reach} {pa qa : Option Addr} {pn pk qn qk : Nat} {P : PT} {d : DataW H} {pl : List MemPlace} (hv : Value.okWide Tryd.prog W r b0 25 (.agg #[.slice pa pn pk, .slice qa qn qk])) (h : DataW.Trod enc Tryd.prog W 0 (fun _ => true) true 25 (.agg #[.slice pa pn pk, .slice qa qn qk]) d pl) (hP : PR W (.slice pa pn pk) (.slice qa qn qk) P) : P.numP := by
  obtain ⟨c0, c1, y0, y1, n, hv, rfl, rfl, h0, h1⟩ := Joins.open_agg2 Tryd.underlying25 (by kernel_rfl) (by kernel_rfl) hv h
  have e0 := congrArg (fun v => v.cells[0]?) hv
  have e1 := congrArg (fun v => v.cells[1]?) hv
  simp [Value.cells] at e0 e1
  subst e0 e1
  exact ⟨num_fs n _ y0 h0 _ hP.1, num_ss n _ y1 h1 _ hP.2⟩
end Go.Proofs.YtplckmpamekloaaDoor
