/- A copy of a program in memory; two of its statements exchanged. -/
import Derived.Test.YtplckmpamekloaaDoorTreeFlow
import Derived.Deep.RegionHeld3
import Derived.Deep.Cut
import Derived.Deep.CutRange
namespace Go.Proofs.YtplckmpamekloaaDoor
open Go.RowKit Go.Sort
set_option linter.unusedVariables false

theorem infoFn : (Tryd.prog.info? 35).map (fun i => (i.zero, i.size, i.bytes)) = some (some (.agg #[.string ⟨#[]⟩, .slice none 0 0, .slice none 0 0]), 3, 64) := by kernel_rfl
theorem infoSt : (Tryd.prog.info? 38).map (fun i => (i.zero, i.size, i.bytes)) = some (some (.agg #[.int .i64 0, .string ⟨#[]⟩, .int .i64 0, .slice none 0 0, .slice none 0 0, .slice none 0 0]), 6, 104) := by kernel_rfl
theorem two_cells {w1 W : World} {B : Nat} {u v : Value} (h : Hid (Below w1.heap.size w1 W)) (k0 : w1.cell? ⟨B, 0, none⟩ = some u) (k1 : w1.cell? ⟨B, 1, none⟩ = some v) : W.cell? ⟨B, 0, none⟩ = some u ∧ W.cell? ⟨B, 1, none⟩ = some v :=
  ⟨(h.out.cell (p := ⟨B, 0, none⟩) (lt_of_cell k0)).trans k0, (h.out.cell (p := ⟨B, 1, none⟩) (lt_of_cell k1)).trans k1⟩
theorem cell_below {w1 W : World} {b o : Nat} {v : Value} (h : Hid (Below w1.heap.size w1 W)) (hc : w1.cell? ⟨b, o, none⟩ = some v) : W.cell? ⟨b, o, none⟩ = some v := (h.out.cell (p := ⟨b, o, none⟩) (lt_of_cell hc)).trans hc

/-- A copy of functions, and where it lies. -/
structure Lf (w1 w : World) (l : List FT) (n : Nat) (f g : Nat → Value) (a : Option Addr) (cap gf : Nat) : Prop where
  ge : w1.heap.size ≤ gf
  le : n ≤ cap
  max : cap ≤ maxLen
  row : 0 < n → a = some ⟨gf, 0, none⟩ ∧ RowF w gf l f g
/-- A copy of statements, and where it lies. -/
structure Lm (w1 w : World) (l : List ST) (n : Nat) (f g h : Nat → Value) (a : Option Addr) (cap gm : Nat) : Prop where
  ge : w1.heap.size ≤ gm
  le : n ≤ cap
  max : cap ≤ maxLen
  row : 0 < n → a = some ⟨gm, 0, none⟩ ∧ RowS w gm l f g h
theorem Copied.lf {w1 w w' : World} {l : List FT} {n : Nat} {f g : Nat → Value} {a : Option Addr} {cap : Nat} (h : Copied w w' 35 3 n (rowF l f g) a cap) (hl : n = l.length) (hb : w1.heap.size ≤ w.heap.size) : Lf w1 w' l n f g a cap w.heap.size := by
  subst hl
  exact ⟨hb, h.le, h.max, fun hn => by obtain ⟨ha, cur, hk, hj⟩ := h.row hn; exact ⟨ha, cur, hk, hj⟩⟩
theorem Copied.lm {w1 w w' : World} {l : List ST} {n : Nat} {f g h : Nat → Value} {a : Option Addr} {cap : Nat} (hc : Copied w w' 38 6 n (rowC l f g h) a cap) (hl : n = l.length) (hb : w1.heap.size ≤ w.heap.size) : Lm w1 w' l n f g h a cap w.heap.size := by
  subst hl
  exact ⟨hb, hc.le, hc.max, fun hn => by obtain ⟨ha, cur, hk, hj⟩ := hc.row hn; exact ⟨ha, cur, hk, hj⟩⟩
/-- The copy of a program, whole. -/
structure Twin (w1 wx : World) (p : PT) (n1 n2 : Nat) (ff fg sf sg sh : Nat → Value) (g : Nat) (fa : Option Addr) (fc : Nat) (ma : Option Addr) (mc gf gm : Nat) : Prop where
  box : wx.heap[g]? = some (.cells #[.slice fa n1 fc, .slice ma n2 mc] 25 (0, 0))
  below : Below w1.heap.size w1 wx
  geg : w1.heap.size ≤ g
  gef : w1.heap.size ≤ gf
  gem : w1.heap.size ≤ gm
  neg : 0 < n2 → gm ≠ g
  nef : 0 < n1 → gf ≠ g
  ne : 0 < n1 → 0 < n2 → gf ≠ gm
  lef : n1 ≤ fc
  maxf : fc ≤ maxLen
  lem : n2 ≤ mc
  maxm : mc ≤ maxLen
  fs : 0 < n1 → fa = some ⟨gf, 0, none⟩ ∧ RowF wx gf p.funcs ff fg
  ms : 0 < n2 → ma = some ⟨gm, 0, none⟩ ∧ RowS wx gm p.main sf sg sh
theorem RowF.stay {w w' : World} {g0 : Nat} {l : List FT} {f g : Nat → Value} (h : RowF w g0 l f g) (hb : Below w.heap.size w w') : RowF w' g0 l f g := by
  obtain ⟨cur, hk, hj⟩ := h
  exact ⟨cur, (hb.block _ (lt_of_heap hk)).trans hk, hj⟩
theorem RowS.stay {w w' : World} {g0 : Nat} {l : List ST} {f g h : Nat → Value} (hr : RowS w g0 l f g h) (hb : Below w.heap.size w w') : RowS w' g0 l f g h := by
  obtain ⟨cur, hk, hj⟩ := hr
  exact ⟨cur, (hb.block _ (lt_of_heap hk)).trans hk, hj⟩
theorem rowF_ne {W : World} {gf gm : Nat} {l : List FT} {r : List ST} {f g sf sg sh : Nat → Value} (h : RowF W gf l f g) (h' : RowS W gm r sf sg sh) : gf ≠ gm := by
  rintro rfl
  obtain ⟨c, hk, _⟩ := h
  obtain ⟨c', hk', _⟩ := h'
  rw [hk] at hk'
  injection hk' with hk'
  injection hk' with _ ht _
  exact absurd ht (by decide)
theorem rowF_box {W : World} {gf b : Nat} {l : List FT} {f g : Nat → Value} {cs : Array Value} (h : RowF W gf l f g) (h' : W.heap[b]? = some (.cells cs 25 (0, 0))) : gf ≠ b := by
  rintro rfl
  obtain ⟨c, hk, _⟩ := h
  rw [hk] at h'
  injection h' with hk'
  injection hk' with _ ht _
  exact absurd ht (by decide)
theorem rowS_box {W : World} {gf b : Nat} {l : List ST} {f g h : Nat → Value} {cs : Array Value} (hr : RowS W gf l f g h) (h' : W.heap[b]? = some (.cells cs 25 (0, 0))) : gf ≠ b := by
  rintro rfl
  obtain ⟨c, hk, _⟩ := hr
  rw [hk] at h'
  injection h' with hk'
  injection hk' with _ ht _
  exact absurd ht (by decide)
theorem drew_heap (w : World) (k : Nat) : w.drew.heap[k]? = w.heap[k]? := rfl
theorem heap_new_eq (w : World) (o : Obj) (k : Nat) (h : k = w.heap.size) : (w.alloc o).heap[k]? = some o := by subst h; exact World.alloc_heap_new w o
theorem Copied.box {v v' : World} {e : TypeId} {size n : Nat} {c : Nat → Value} {a : Option Addr} {cap : Nat} (hc : Copied v v' e size n c a cap) {b : Nat} {o : Obj} (h : v.heap[b]? = some o) : v'.heap[b]? = some o :=
  (hc.below.block b (Array.getElem?_eq_some_iff.1 h).1).trans h
def box0 : Obj := .cells #[.slice none 0 0, .slice none 0 0] 25
theorem Lf.stay {w1 w w' : World} {l : List FT} {n : Nat} {f g : Nat → Value} {a : Option Addr} {cap gf : Nat} (h : Lf w1 w l n f g a cap gf) (hb : Below w.heap.size w w') : Lf w1 w' l n f g a cap gf :=
  ⟨h.ge, h.le, h.max, fun hn => ⟨(h.row hn).1, (h.row hn).2.stay hb⟩⟩
theorem Lm.stay {w1 w w' : World} {l : List ST} {n : Nat} {f g h : Nat → Value} {a : Option Addr} {cap gm : Nat} (hl : Lm w1 w l n f g h a cap gm) (hb : Below w.heap.size w w') : Lm w1 w' l n f g h a cap gm :=
  ⟨hl.ge, hl.le, hl.max, fun hn => ⟨(hl.row hn).1, (hl.row hn).2.stay hb⟩⟩
theorem twin_set {w1 W : World} {p : PT} {n1 n2 : Nat} {ff fg sf sg sh : Nat → Value} {fa : Option Addr} {fc : Nat} {ma : Option Addr} {mc gf gm g : Nat}
    (hF : Lf w1 W p.funcs n1 ff fg fa fc gf) (hS : Lm w1 W p.main n2 sf sg sh ma mc gm) (hg : W.heap[g]? = some box0) (hge : w1.heap.size ≤ g) (h1 : Below w1.heap.size w1 W) :
    Twin w1 ((W.setCell ⟨g, 0, none⟩ (.slice fa n1 fc)).setCell ⟨g, 1, none⟩ (.slice ma n2 mc)) p n1 n2 ff fg sf sg sh g fa fc ma mc gf gm where
  box := heap_set (heap_set hg 0 _) 1 _
  below := (h1.setCell (p := ⟨g, 0, none⟩) hge _).setCell (p := ⟨g, 1, none⟩) hge _
  geg := hge
  gef := hF.ge
  gem := hS.ge
  neg := fun hn => rowS_box (hS.row hn).2 hg
  nef := fun hn => rowF_box (hF.row hn).2 hg
  ne := fun hn hm => rowF_ne (hF.row hn).2 (hS.row hm).2
  lef := hF.le
  maxf := hF.max
  lem := hS.le
  maxm := hS.max
  fs := fun hn => ⟨(hF.row hn).1, by
    have hne := rowF_box (hF.row hn).2 hg
    obtain ⟨cur, hk, hj⟩ := (hF.row hn).2
    exact ⟨cur, by rw [set_heap _ _ _ _ _ hne, set_heap _ _ _ _ _ hne]; exact hk, hj⟩⟩
  ms := fun hn => ⟨(hS.row hn).1, by
    have hne := rowS_box (hS.row hn).2 hg
    obtain ⟨cur, hk, hj⟩ := (hS.row hn).2
    exact ⟨cur, by rw [set_heap _ _ _ _ _ hne, set_heap _ _ _ _ _ hne]; exact hk, hj⟩⟩
theorem row_at {w : World} {g0 : Nat} {l : List ST} {f g h : Nat → Value} (hr : RowS w g0 l f g h) (i : Nat) (hi : i < l.length) :
    w.cell? ⟨g0, i * 6, none⟩ = some (.int .i64 (l.getD i default).op) ∧ w.cell? ⟨g0, i * 6 + 1, none⟩ = some (.string (l.getD i default).name) ∧ w.cell? ⟨g0, i * 6 + 2, none⟩ = some (.int .i64 (l.getD i default).num) ∧ w.cell? ⟨g0, i * 6 + 3, none⟩ = some (f i) ∧ w.cell? ⟨g0, i * 6 + 4, none⟩ = some (g i) ∧ w.cell? ⟨g0, i * 6 + 5, none⟩ = some (h i) := by
  obtain ⟨cur, hk, hj⟩ := hr
  obtain ⟨r0, r1, r2, r3, r4, r5⟩ := rowC_at l f g h i
  have c := fun j hj' => (cell_of_heap hk j).trans (hj j hj')
  exact ⟨(c _ (by omega)).trans (by rw [r0]), (c _ (by omega)).trans (by rw [r1]), (c _ (by omega)).trans (by rw [r2]), (c _ (by omega)).trans (by rw [r3]), (c _ (by omega)).trans (by rw [r4]), (c _ (by omega)).trans (by rw [r5])⟩
theorem shape3 {w : World} {v : Value} {l : List ET} (h : ESl w v l) : ∃ a n cap, v = .slice a n cap := by obtain ⟨a, c, h⟩ := h.shape0; exact ⟨a, _, c, h⟩
theorem shapeS {w : World} {v : Value} {l : List ST} (h : SSl w v l) : ∃ a n cap, v = .slice a n cap := by obtain ⟨a, c, h⟩ := h.shape'; exact ⟨a, _, c, h⟩
theorem eval_of {a : Act} {k : Nat} {v : Value} (h : a.tmps[k]? = some v) : a.eval (.tmp k) = v := by
  show a.tmps.getD k undef = v
  rw [Array.getD_eq_getD_getElem?, h]; rfl
/-- What each operation of the copying statement comes to. -/
def phi2 (w1 : World) (Bp : Nat) (a1 a2 : Option Addr) (p : PT) (n1 k1 n2 k2 : Nat) (ff fg sf sg sh : Nat → Value) : Nat → Value → World → Prop
  | 0, v, _ => ∃ b, v = .slice (some ⟨b, 0, none⟩) 0 0
  | 1, v, _ => v = .pointer (some ⟨Bp, 0, none⟩)
  | 2, v, _ => v = .slice a1 n1 k1
  | 3, v, w => ∃ fa fc gf, v = .slice fa n1 fc ∧ Lf w1 w p.funcs n1 ff fg fa fc gf
  | 4, v, _ => ∃ b, v = .slice (some ⟨b, 0, none⟩) 0 0
  | 5, v, _ => v = .pointer (some ⟨Bp, 1, none⟩)
  | 6, v, _ => v = .slice a2 n2 k2
  | 7, v, w => ∃ ma mc gm, v = .slice ma n2 mc ∧ Lm w1 w p.main n2 sf sg sh ma mc gm
  | 8, v, w => ∃ fa fc gf ma mc gm, v = .agg #[.slice fa n1 fc, .slice ma n2 mc] ∧ Lf w1 w p.funcs n1 ff fg fa fc gf ∧ Lm w1 w p.main n2 sf sg sh ma mc gm
  | _, v, w => ∃ g, v = .pointer (some ⟨g, 0, none⟩) ∧ w1.heap.size ≤ g ∧ w.heap[g]? = some box0
theorem phi2_mono (w1 : World) (Bp : Nat) (a1 a2 : Option Addr) (p : PT) (n1 k1 n2 k2 : Nat) (ff fg sf sg sh : Nat → Value) (i : Nat) (v : Value) (w w' : World) (hb : Below w.heap.size w w')
    (h : phi2 w1 Bp a1 a2 p n1 k1 n2 k2 ff fg sf sg sh i v w) : phi2 w1 Bp a1 a2 p n1 k1 n2 k2 ff fg sf sg sh i v w' := by
  unfold phi2 at h ⊢
  split at h <;> first
    | exact h
    | (obtain ⟨a, b, c, e, q⟩ := h; exact ⟨a, b, c, e, q.stay hb⟩)
    | (obtain ⟨a, b, c, a', b', c', e, q, q'⟩ := h; exact ⟨a, b, c, a', b', c', e, q.stay hb, q'.stay hb⟩)
    | (obtain ⟨g, e, q, q'⟩ := h; exact ⟨g, e, q, (hb.block g (lt_of_heap q')).trans q'⟩)

/-- Rows of six cells in a block. -/
def RowV (w : World) (g0 n : Nat) (c : Nat → Value) : Prop := ∃ cur, w.heap[g0]? = some (.cells cur 38 (0, 0)) ∧ ∀ j, j < n * 6 → cur[j]? = some (c j)
theorem RowS.rowV {w : World} {g0 : Nat} {l : List ST} {f g h : Nat → Value} (hr : RowS w g0 l f g h) : RowV w g0 l.length (rowC l f g h) := hr
theorem RowV.stay {w w' : World} {g0 n : Nat} {c : Nat → Value} (h : RowV w g0 n c) (hb : Below w.heap.size w w') : RowV w' g0 n c := by
  obtain ⟨cur, hk, hj⟩ := h
  exact ⟨cur, (hb.block _ (lt_of_heap hk)).trans hk, hj⟩
theorem RowV.cell {w : World} {g0 n : Nat} {c : Nat → Value} (h : RowV w g0 n c) (j : Nat) (hj : j < n * 6) : w.cell? ⟨g0, j, none⟩ = some (c j) := by
  obtain ⟨cur, hk, hc⟩ := h
  exact (cell_of_heap hk j).trans (hc j hj)
theorem RowV.free {w : World} {g0 n : Nat} {c : Nat → Value} (h : RowV w g0 n c) (j : Nat) : w.frozen? ⟨g0, j, none⟩ = false := by
  obtain ⟨cur, hk, _⟩ := h
  exact free_of_heap hk j
theorem RowV.set {w : World} {g0 n : Nat} {c : Nat → Value} (h : RowV w g0 n c) (j : Nat) (hj : j < n * 6) (v : Value) : RowV (w.setCell ⟨g0, j, none⟩ v) g0 n (fun k => if k = j then v else c k) := by
  obtain ⟨cur, hk, hc⟩ := h
  refine ⟨_, heap_set hk j v, fun k hk' => ?_⟩
  dsimp only
  by_cases e : k = j
  · subst e
    rw [if_pos rfl, Array.getElem?_setIfInBounds_self_of_lt]
    have := hc k hk'
    exact (Array.getElem?_eq_some_iff.1 this).1
  · rw [if_neg e, Array.getElem?_setIfInBounds_ne (fun e' => e e'.symm)]
    exact hc k hk'
/-- Six cells of a row. -/
def six6 (v0 v1 v2 v3 v4 v5 : Value) (j : Nat) : Value := match j with | 0 => v0 | 1 => v1 | 2 => v2 | 3 => v3 | 4 => v4 | _ => v5
def set6 (w : World) (g0 o : Nat) (v0 v1 v2 v3 v4 v5 : Value) : World := (((((w.setCell ⟨g0, o, none⟩ v0).setCell ⟨g0, o + 1, none⟩ v1).setCell ⟨g0, o + 2, none⟩ v2).setCell ⟨g0, o + 3, none⟩ v3).setCell ⟨g0, o + 4, none⟩ v4).setCell ⟨g0, o + 5, none⟩ v5
theorem RowV.congr {w : World} {g0 n : Nat} {c c' : Nat → Value} (h : RowV w g0 n c) (hc : ∀ j, j < n * 6 → c j = c' j) : RowV w g0 n c' := by
  obtain ⟨cur, hk, hj⟩ := h
  exact ⟨cur, hk, fun j hj' => (hj j hj').trans (by rw [hc j hj'])⟩
theorem RowV.set6 {w : World} {g0 n : Nat} {c : Nat → Value} (h : RowV w g0 n c) (i : Nat) (hi : i < n) (v0 v1 v2 v3 v4 v5 : Value) : RowV (set6 w g0 (i * 6) v0 v1 v2 v3 v4 v5) g0 n (fun j => if j / 6 = i then six6 v0 v1 v2 v3 v4 v5 (j % 6) else c j) := by
  have h0 := h.set (i * 6) (by omega) v0
  have h1 := h0.set (i * 6 + 1) (by omega) v1
  have h2 := h1.set (i * 6 + 2) (by omega) v2
  have h3 := h2.set (i * 6 + 3) (by omega) v3
  have h4 := h3.set (i * 6 + 4) (by omega) v4
  have h5 := h4.set (i * 6 + 5) (by omega) v5
  refine RowV.congr h5 (fun j hj' => ?_)
  clear h0 h1 h2 h3 h4 h5 h
  by_cases e : j / 6 = i
  · rw [if_pos e]
    have h6 : j % 6 = 0 ∨ j % 6 = 1 ∨ j % 6 = 2 ∨ j % 6 = 3 ∨ j % 6 = 4 ∨ j % 6 = 5 := by omega
    rcases h6 with h6 | h6 | h6 | h6 | h6 | h6 <;> rw [h6]
    · rw [if_neg (by omega), if_neg (by omega), if_neg (by omega), if_neg (by omega), if_neg (by omega), if_pos (by omega)]; rfl
    · rw [if_neg (by omega), if_neg (by omega), if_neg (by omega), if_neg (by omega), if_pos (by omega)]; rfl
    · rw [if_neg (by omega), if_neg (by omega), if_neg (by omega), if_pos (by omega)]; rfl
    · rw [if_neg (by omega), if_neg (by omega), if_pos (by omega)]; rfl
    · rw [if_neg (by omega), if_pos (by omega)]; rfl
    · rw [if_pos (by omega)]; rfl
  · rw [if_neg e, if_neg (by omega), if_neg (by omega), if_neg (by omega), if_neg (by omega), if_neg (by omega), if_neg (by omega)]
theorem set6_grown (w : World) (g0 o : Nat) (v0 v1 v2 v3 v4 v5 : Value) : w.grownBy (set6 w g0 o v0 v1 v2 v3 v4 v5) (some g0) := by
  have h : ∀ (W W' : World) (j : Nat) (v : Value), W.grownBy W' (some g0) → W.grownBy (W'.setCell ⟨g0, j, none⟩ v) (some g0) := fun W W' j v h =>
    ⟨h.os, h.tape, h.output, by have := (grown_set W' g0 j v).size; have := h.size; omega, fun k hk hne => ((grown_set W' g0 j v).block k (Nat.lt_of_lt_of_le hk h.size) hne).trans (h.block k hk hne)⟩
  exact h _ _ _ _ (h _ _ _ _ (h _ _ _ _ (h _ _ _ _ (h _ _ _ _ (grown_set w g0 o v0)))))
/-- Two places exchanged. -/
def swF (f : Nat → Value) (i k j : Nat) : Value := if j = k then f i else if j = i then f k else f j
def swL (l : List ST) (i k : Nat) : List ST := (l.set i (l.getD k default)).set k (l.getD i default)
theorem swL_length (l : List ST) (i k : Nat) : (swL l i k).length = l.length := by simp [swL]
theorem swL_getD (l : List ST) (i k j : Nat) (hi : i < l.length) (hk : k < l.length) (hj : j < l.length) : (swL l i k).getD j default = if j = k then l.getD i default else if j = i then l.getD k default else l.getD j default := by
  unfold swL
  simp only [List.getD_eq_getElem?_getD, List.getElem?_set]
  by_cases e1 : j = k
  · subst e1; simp [hj]
  · rw [if_neg e1, if_neg (fun e => e1 e.symm)]
    by_cases e2 : j = i
    · subst e2; simp [hj]
    · rw [if_neg e2, if_neg (fun e => e2 e.symm)]
theorem swap_row (l : List ST) (f g h : Nat → Value) (i k : Nat) (hi : i < l.length) (hk : k < l.length) (j : Nat) (hj : j < l.length * 6) :
    (if j / 6 = k then rowC l f g h (i * 6 + j % 6) else if j / 6 = i then rowC l f g h (k * 6 + j % 6) else rowC l f g h j) = rowC (swL l i k) (swF f i k) (swF g i k) (swF h i k) j := by
  obtain ⟨q, hq⟩ : ∃ q, j / 6 = q := ⟨_, rfl⟩
  have hql : q < l.length := by omega
  obtain ⟨a0, a1, a2, a3, a4, a5⟩ := rowC_at l f g h i
  obtain ⟨b0, b1, b2, b3, b4, b5⟩ := rowC_at l f g h k
  obtain ⟨c0, c1, c2, c3, c4, c5⟩ := rowC_at l f g h q
  obtain ⟨d0, d1, d2, d3, d4, d5⟩ := rowC_at (swL l i k) (swF f i k) (swF g i k) (swF h i k) q
  rw [swL_getD l i k q hi hk hql] at d0 d1 d2
  have h6 : j % 6 = 0 ∨ j % 6 = 1 ∨ j % 6 = 2 ∨ j % 6 = 3 ∨ j % 6 = 4 ∨ j % 6 = 5 := by omega
  have hj6 : j = q * 6 + j % 6 := by omega
  rw [hq]
  rcases h6 with h6 | h6 | h6 | h6 | h6 | h6
  · rw [h6, Nat.add_zero] at hj6
    rw [h6, Nat.add_zero, Nat.add_zero, hj6, a0, b0, c0, d0]
    split
    · rfl
    · split <;> rfl
  · rw [h6] at hj6
    rw [h6, hj6, a1, b1, c1, d1]
    split
    · rfl
    · split <;> rfl
  · rw [h6] at hj6
    rw [h6, hj6, a2, b2, c2, d2]
    split
    · rfl
    · split <;> rfl
  · rw [h6] at hj6
    rw [h6, hj6, a3, b3, c3, d3]
    rfl
  · rw [h6] at hj6
    rw [h6, hj6, a4, b4, c4, d4]
    rfl
  · rw [h6] at hj6
    rw [h6, hj6, a5, b5, c5, d5]
    rfl
theorem six6_row (l : List ST) (f g h : Nat → Value) (i j : Nat) (hj : j < 6) : six6 (.int .i64 (l.getD i default).op) (.string (l.getD i default).name) (.int .i64 (l.getD i default).num) (f i) (g i) (h i) j = rowC l f g h (i * 6 + j) := by
  obtain ⟨r0, r1, r2, r3, r4, r5⟩ := rowC_at l f g h i
  have hj' : j = 0 ∨ j = 1 ∨ j = 2 ∨ j = 3 ∨ j = 4 ∨ j = 5 := by omega
  rcases hj' with rfl | rfl | rfl | rfl | rfl | rfl
  · exact r0.symm
  · exact r1.symm
  · exact r2.symm
  · exact r3.symm
  · exact r4.symm
  · exact r5.symm
/-- The copied functions. -/
theorem copy_fsl {w W : World} {a : Option Addr} {n cap : Nat} {l : List FT} {b off : Nat} {f g : Nat → Value} (hf : FRow w a n cap l b off f g) (hb : Below w.heap.size w W) {fa : Option Addr} {fc gf : Nat} (hle : n ≤ fc) (hmax : fc ≤ maxLen) (hr : 0 < n → fa = some ⟨gf, 0, none⟩ ∧ RowF W gf l f g) : FSl W (.slice fa n fc) l := by
  have hl := hf.len
  subst hl
  exact RowF.fsl (fun h => (hr h).2) (fun h => (hr h).1) hle hmax (fun i hi => (hf.ts i hi).stay hb) (fun i hi => (hf.bs i hi).stay hb)
/-- The copied statements. -/
theorem copy_ssl {w W : World} {a : Option Addr} {n cap : Nat} {l : List ST} {b off : Nat} {f g h : Nat → Value} (hs : SRow w a n cap l b off f g h) (hb : Below w.heap.size w W) {ma : Option Addr} {mc gm : Nat} (hle : n ≤ mc) (hmax : mc ≤ maxLen) (hr : 0 < n → ma = some ⟨gm, 0, none⟩ ∧ RowS W gm l f g h) : SSl W (.slice ma n mc) l := by
  have hl := hs.len
  subst hl
  exact RowS.ssl (fun h => (hr h).2) (fun h => (hr h).1) hle hmax (fun i hi => (hs.es i hi).stay hb) (fun i hi => (hs.bs i hi).stay hb) (fun i hi => (hs.xs i hi).stay hb)
/-- .. two of them exchanged. -/
theorem copy_swapped {w W : World} {a : Option Addr} {n cap : Nat} {l : List ST} {b off : Nat} {f g h : Nat → Value} (hs : SRow w a n cap l b off f g h) (hb : Below w.heap.size w W) {mc gm : Nat} (hle : n ≤ mc) (hmax : mc ≤ maxLen) (i k : Nat) (hi : i < n) (hk : k < n)
    (hr : RowS W gm (swL l i k) (swF f i k) (swF g i k) (swF h i k)) : SSl W (.slice (some ⟨gm, 0, none⟩) n mc) (swL l i k) := by
  have hl := hs.len
  subst hl
  have hL := swL_length l i k
  have hx : ∀ (P : Value → ST → Prop) (f : Nat → Value), (∀ j, j < l.length → P (f j) (l.getD j default)) → ∀ j, j < l.length → P (swF f i k j) ((swL l i k).getD j default) := by
    intro P f hP j hj
    rw [swL_getD l i k j hi hk hj]
    unfold swF
    by_cases e1 : j = k
    · rw [if_pos e1, if_pos e1]; exact hP i hi
    · rw [if_neg e1, if_neg e1]
      by_cases e2 : j = i
      · rw [if_pos e2, if_pos e2]; exact hP k hk
      · rw [if_neg e2, if_neg e2]; exact hP j hj
  have := RowS.ssl (w := W) (g0 := gm) (cap := mc) (l := swL l i k) (f := swF f i k) (g := swF g i k) (h := swF h i k) (fun _ => hr) (a := some ⟨gm, 0, none⟩) (fun _ => rfl) (by omega) hmax
    (fun j hj => hx (fun v s => ESl W v s.parts) f (fun j hj => (hs.es j hj).stay hb) j (by omega)) (fun j hj => hx (fun v s => SSl W v s.body) g (fun j hj => (hs.bs j hj).stay hb) j (by omega)) (fun j hj => hx (fun v s => SSl W v s.els) h (fun j hj => (hs.xs j hj).stay hb) j (by omega))
  rwa [hL] at this
theorem grown_cell {W W' : World} {b : Nat} (h : W.grownBy W' (some b)) {c o : Nat} {v : Value} (hne : b ≠ c) (hc : W.cell? ⟨c, o, none⟩ = some v) : W'.cell? ⟨c, o, none⟩ = some v := by
  have := h.block c (lt_of_cell hc) (fun e => hne (by cases e; rfl))
  simp only [World.cell?] at hc ⊢
  rw [this]; exact hc
/-- One statement of a slice, alone. -/
theorem SSl.sub {w : World} {a : Option Addr} {n cap : Nat} {l : List ST} (h : SSl w (.slice a n cap) l) (k : Nat) (hk : k < n) : ∃ b off, a = some ⟨b, off, none⟩ ∧ SSl w (.slice (some ⟨b, off + k * 6, none⟩) 1 (cap - k)) [l.getD k default] := by
  generalize hv : Value.slice a n cap = v at h
  cases h with
  | mk a' b off cap' l' f g h ha hc hm hcell he hb hx =>
    cases hv
    refine ⟨b, off, ha (by omega), ?_⟩
    have := SSl.mk (w := w) (some ⟨b, off + k * 6, none⟩) b (off + k * 6) (cap - k) [l.getD k default] (fun _ => f k) (fun _ => g k) (fun _ => h k) (fun _ => rfl) (by simp; omega) (by omega)
      (fun i hi => by obtain rfl : i = 0 := by simpa using hi
                      simpa using hcell k hk)
      (fun i hi => by obtain rfl : i = 0 := by simpa using hi
                      simpa using he k hk)
      (fun i hi => by obtain rfl : i = 0 := by simpa using hi
                      simpa using hb k hk)
      (fun i hi => by obtain rfl : i = 0 := by simpa using hi
                      simpa using hx k hk)
    exact this
end Go.Proofs.YtplckmpamekloaaDoor
