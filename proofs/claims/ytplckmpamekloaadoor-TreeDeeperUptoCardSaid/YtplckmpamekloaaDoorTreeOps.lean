/- The walk of TreeOps. -/
import Derived.Test.YtplckmpamekloaaDoorTreeParts
import Derived.Laws.AppendOwn
import Derived.RangeFuncBox
namespace Go.Proofs.YtplckmpamekloaaDoor
open Go.RowKit Go.Sort
set_option linter.unusedVariables false

theorem infoE : (Tryd.prog.info? 41).map (fun i => (i.zero, i.size, i.bytes)) = some (some (.agg #[.int .i64 0, .int .i64 0, .string ⟨#[]⟩, .slice none 0 0]), 4, 56) := by kernel_rfl
def clockT : ET := .mk 3 0 ⟨#[]⟩ []
def clockC : List Value := [.int .i64 3, .int .i64 0, .string ⟨#[]⟩, .slice none 0 0]
def clocks (k : Nat) : List Value := (List.replicate k clockC).flatten
theorem clocks_next (k : Nat) : clocks k ++ clockC = clocks (k + 1) := by
  unfold clocks; rw [List.replicate_succ', List.flatten_append]; simp
theorem clocks_at (k i j : Nat) (hi : i < k) (hj : j < 4) : (clocks k)[i * 4 + j]? = clockC[j]? := by
  induction k generalizing i with
  | zero => omega
  | succ k ih =>
    have e : clocks (k + 1) = clockC ++ clocks k := by unfold clocks; rw [List.replicate_succ]; rfl
    rw [e]
    cases i with
    | zero => rw [List.getElem?_append_left (by show _ < 4; omega)]; congr 1; omega
    | succ i =>
      rw [List.getElem?_append_right (by show 4 ≤ _; omega)]
      have : (i + 1) * 4 + j - clockC.length = i * 4 + j := by show (i + 1) * 4 + j - 4 = _; omega
      rw [this]; exact ih i (by omega)
theorem own_cell {w : World} {base n : Nat} {e : TypeId} {size : Nat} {g cap : Nat} {xs : List Value} (h : w.ownsRow base e size (.slice (some ⟨g, 0, none⟩) n cap) n xs) (i : Nat) (hi : i < n * size) : w.cell? ⟨g, i, none⟩ = xs[i]? := by
  obtain ⟨hl, ⟨h0, _⟩ | ⟨g', cap', cur, hv, _, hg, hn, hm, hc, ht⟩⟩ := h
  · cases h0
  · cases hv
    simp [World.cell?, hg]
    rw [← ht, List.getElem?_take, if_pos hi]; simp
theorem own_es {w : World} {base k : Nat} {v : Value} (h : w.ownsRow base 41 4 v k (clocks k)) : ESl w v (List.replicate k clockT) := by
  have h' := h
  obtain ⟨hl, ⟨rfl, rfl⟩ | ⟨g, cap, cur, rfl, _, hg, hn, hm, hc, ht⟩⟩ := h
  · exact ESl.nil w
  · have c := fun i hi => own_cell h' i hi
    have hlen : (List.replicate k clockT).length = k := by simp
    have hget : ∀ i, i < k → (List.replicate k clockT).getD i default = clockT := fun i hi => by simp [List.getD, hi]
    have := ESl.mk (w := w) (some ⟨g, 0, none⟩) g 0 cap (List.replicate k clockT) (fun _ => .slice none 0 0) (fun _ => rfl) (by omega) hm
      (fun i hi => by
        rw [hlen] at hi; rw [hget i hi]
        refine ⟨?_, ?_, ?_, ?_⟩
        · rw [Nat.zero_add, c (i * 4) (by omega)]; exact clocks_at k i 0 hi (by omega)
        · rw [Nat.zero_add, c (i * 4 + 1) (by omega)]; exact clocks_at k i 1 hi (by omega)
        · rw [Nat.zero_add, c (i * 4 + 2) (by omega)]; exact clocks_at k i 2 hi (by omega)
        · rw [Nat.zero_add, c (i * 4 + 3) (by omega)]; exact clocks_at k i 3 hi (by omega))
      (fun i hi => by rw [hlen] at hi; rw [hget i hi]; exact ESl.nil w)
    rwa [hlen] at this
theorem heap_set {W : World} {B : Nat} {cs : Array Value} {t : TypeId} (h : W.heap[B]? = some (.cells cs t (0, 0))) (j : Nat) (v : Value) : (W.setCell ⟨B, j, none⟩ v).heap[B]? = some (.cells (cs.setIfInBounds j v) t (0, 0)) := by
  obtain ⟨hlt, hk⟩ := Array.getElem?_eq_some_iff.1 h
  show (W.heap.modify B _)[B]? = _
  rw [Array.getElem?_eq_getElem (by rw [Array.size_modify]; exact hlt), Array.getElem_modify_self, hk]
  rfl
theorem free_of_heap {W : World} {B : Nat} {cs : Array Value} {t : TypeId} (h : W.heap[B]? = some (.cells cs t (0, 0))) (j : Nat) : W.frozen? ⟨B, j, none⟩ = false := by simp [World.frozen?, h]
theorem grown_set (W : World) (b j : Nat) (v : Value) : W.grownBy (W.setCell ⟨b, j, none⟩ v) (some b) :=
  ⟨rfl, rfl, rfl, (KeepsWalks.setCell W _ v).size, fun k _ hk => Below.heap_setCell _ _ _ k (fun e => hk (by rw [e]))⟩
theorem own_of_grown {W W' : World} {row : Option Nat} {B : Nat} {o : Obj} (h : W.heap[B]? = some o) (hg : W.grownBy W' row) (hne : some B ≠ row) : W'.heap[B]? = some o := (hg.block B (Array.getElem?_eq_some_iff.1 h).1 hne).trans h
theorem own_ne {w : World} {base : Nat} {e : TypeId} {size n : Nat} {v : Value} {xs : List Value} (h : w.ownsRow base e size v n xs) {B : Nat} (hB : B < base) : some B ≠ v.ownBlock := by
  obtain ⟨_, ⟨rfl, _⟩ | ⟨g, cap, cur, rfl, hb, _⟩⟩ := h
  · simp [Value.ownBlock]
  · simp only [Value.ownBlock]; intro e; cases e; omega
theorem below_grown {B : Nat} {w W W' : World} {row : Option Nat} (h : Below B w W) (hs : B ≤ W.heap.size) (hg : W.grownBy W' row) (hr : ∀ k, row = some k → B ≤ k) : Below B w W' := h.grown hg hs hr

/-- What Right tells of the program. -/
def opsP (o n : Int) (s : ByteArray) (k : Nat) : PT := ⟨[], [.mk 5 0 ⟨#[]⟩ [.mk o n s (List.replicate k clockT)] [] []]⟩
theorem ops_right (o n : Int) (s : ByteArray) (k : Nat) : (opsP o n s k).right = if exprB o n s k then 0 else 1 := by
  have hc : okN (ET.nodesL (List.replicate k clockT) 3) := by
    rw [ET.nodesL_all]
    intro i hi
    have hi' : i < k := by simpa using hi
    rw [show (List.replicate k clockT).getD i default = clockT by simp [List.getD, hi'], ET.nodes_eq, okN_cons]
    exact ⟨⟨(by decide +kernel : exprB 3 0 ⟨#[]⟩ 0 = true), (by decide : (3 : Int) ≤ 64)⟩, fun x hx => by cases hx⟩
  have hn : (opsP o n s k).nodes = (stmtB 5 0 ⟨#[]⟩ 1 0 0, 1) :: ((exprB o n s k, 2) :: ET.nodesL (List.replicate k clockT) 3) := by
    have w2' : wrap64 2 = 2 := w64 2 (by omega) (by omega)
    have w3' : wrap64 3 = 3 := w64 3 (by omega) (by omega)
    simp [opsP, PT.nodes, FT.nodesL, ST.nodesL, ST.nodes, ET.nodesL, ET.nodes, w2', w3']
  cases hb : exprB o n s k with
  | true =>
    have : (opsP o n s k).right = 0 := by
      rw [right_zero]
      refine ⟨heads_nil _, ?_⟩
      rw [hn, okN_cons, okN_cons]
      exact ⟨⟨(by decide +kernel : stmtB 5 0 ⟨#[]⟩ 1 0 0 = true), (by decide : (1 : Int) ≤ 64)⟩, ⟨hb, (by decide : (2 : Int) ≤ 64)⟩, hc⟩
    rw [this]; rfl
  | false =>
    unfold PT.right
    have : (opsP o n s k).nodes.all (·.1) = false := by rw [hn, hb]; simp
    rw [this]; simp

def opS (nm : Bool) : ByteArray := if nm then ⟨#[113]⟩ else ⟨#[]⟩
theorem opS_name (nm : Bool) : nameB (opS nm) = nm := by cases nm <;> decide +kernel
theorem opS_empty (nm : Bool) : (opS nm).toList.isEmpty = !nm := by cases nm <;> decide +kernel
theorem mid0 (n : Int) : (decide ((0 : Int) ≤ n) && decide (n ≤ 0)) = (n == 0) := by
  by_cases h : n = 0
  · subst h; rfl
  · rw [show (n == 0) = false by simpa using h]
    by_cases h0 : 0 ≤ n
    · rw [decide_eq_false (show ¬ n ≤ 0 by omega), Bool.and_false]
    · rw [decide_eq_false h0, Bool.false_and]
theorem many_pos (p k : Int) (h : 0 ≤ p) : manyB p k = (k == p) := by unfold manyB; rw [decide_eq_false (show ¬ p < 0 by omega)]; simp
theorem fits_row (r : Shp) (h1 : r.2.1 = 0) (h2 : r.2.2.1 = 0) (h3 : 0 ≤ r.2.2.2.1) (nm : Bool) (n k : Int) : fitsB r.1 r.2.1 r.2.2.1 r.2.2.2.1 (opS nm) n k = ((k == r.2.2.2.1) && ((n == 0) && (if r.1 then nm else !nm))) := by
  unfold fitsB
  rw [h1, h2, many_pos _ _ h3, opS_name, opS_empty, ← Bool.and_assoc (decide _), mid0]
theorem ops_cases (o n : Int) (nm : Bool) (m : Nat) (hn : n ≤ 9223372036854775807) :
    (o = 1 ∧ exprB o n (opS nm) m = (((m : Int) == 0) && (decide (0 ≤ n) && !nm))) ∨ (o = 2 ∧ exprB o n (opS nm) m = (((m : Int) == 0) && ((n == 0) && nm))) ∨ (o = 3 ∧ exprB o n (opS nm) m = (((m : Int) == 0) && ((n == 0) && !nm))) ∨
    (o = 4 ∧ exprB o n (opS nm) m = (((m : Int) == 1) && ((n == 0) && nm))) ∨ (o = 5 ∧ exprB o n (opS nm) m = (decide ((m : Int) ≤ 8) && ((n == 0) && nm))) ∨ (o = 6 ∧ exprB o n (opS nm) m = (((m : Int) == 1) && ((n == 0) && !nm))) ∨ (o = 7 ∧ exprB o n (opS nm) m = (((m : Int) == 1) && ((n == 0) && !nm))) ∨
    ((8 ≤ o ∧ o ≤ 16) ∧ exprB o n (opS nm) m = (((m : Int) == 2) && ((n == 0) && !nm))) ∨ ((o < 1 ∨ 16 < o) ∧ exprB o n (opS nm) m = false) := by
  by_cases h : 1 ≤ o ∧ o < 17
  · have he : exprB o n (opS nm) m = exprFits o.toNat (opS nm) n m := by unfold exprB; rw [decide_eq_true h, Bool.true_and]
    rw [he]
    obtain ⟨i, rfl⟩ : ∃ i : Nat, o = (i : Int) := ⟨o.toNat, by omega⟩
    rw [Int.toNat_natCast]
    have hi : i = 1 ∨ i = 2 ∨ i = 3 ∨ i = 4 ∨ i = 5 ∨ i = 6 ∨ i = 7 ∨ i = 8 ∨ i = 9 ∨ i = 10 ∨ i = 11 ∨ i = 12 ∨ i = 13 ∨ i = 14 ∨ i = 15 ∨ i = 16 := by omega
    unfold exprFits
    rcases hi with rfl | rfl | rfl | rfl | rfl | rfl | rfl | rfl | rfl | rfl | rfl | rfl | rfl | rfl | rfl | rfl
    · left
      refine ⟨rfl, ?_⟩
      show fitsB false 0 9223372036854775807 0 (opS nm) n m = _
      unfold fitsB
      rw [many_pos _ _ (Int.le_refl 0), opS_name, opS_empty, decide_eq_true hn]
      simp
    · right; left; exact ⟨rfl, fits_row (exprRow 2) rfl rfl (by decide) nm n m⟩
    · right; right; left; exact ⟨rfl, fits_row (exprRow 3) rfl rfl (by decide) nm n m⟩
    · right; right; right; left; exact ⟨rfl, fits_row (exprRow 4) rfl rfl (by decide) nm n m⟩
    · right; right; right; right; left
      refine ⟨rfl, ?_⟩
      show fitsB true 0 0 (-8) (opS nm) n m = _
      unfold fitsB manyB
      rw [opS_name, opS_empty, ← Bool.and_assoc (decide ((0 : Int) ≤ n)), mid0, show ((m : Int) == -8) = false by simp]
      simp
    · right; right; right; right; right; left; exact ⟨rfl, fits_row (exprRow 6) rfl rfl (by decide) nm n m⟩
    · right; right; right; right; right; right; left; exact ⟨rfl, fits_row (exprRow 7) rfl rfl (by decide) nm n m⟩
    all_goals
      right; right; right; right; right; right; right; left
      refine ⟨by omega, ?_⟩
      first
        | exact fits_row (exprRow 8) rfl rfl (by decide) nm n m
        | exact fits_row (exprRow 9) rfl rfl (by decide) nm n m
        | exact fits_row (exprRow 10) rfl rfl (by decide) nm n m
        | exact fits_row (exprRow 11) rfl rfl (by decide) nm n m
        | exact fits_row (exprRow 12) rfl rfl (by decide) nm n m
        | exact fits_row (exprRow 13) rfl rfl (by decide) nm n m
        | exact fits_row (exprRow 14) rfl rfl (by decide) nm n m
        | exact fits_row (exprRow 15) rfl rfl (by decide) nm n m
        | exact fits_row (exprRow 16) rfl rfl (by decide) nm n m
  · right; right; right; right; right; right; right; right
    refine ⟨by omega, ?_⟩
    unfold exprB; rw [decide_eq_false h]; rfl

theorem clock_new (W : World) : ∀ j u, clockC[j]? = some u → (W.alloc (.cells #[.int .i64 3, .int .i64 0, .string ⟨#[]⟩, .slice none 0 0] 41)).cell? ((⟨W.heap.size, 0, none⟩ : Addr).add j) = some u := by
  intro j u h
  rw [addr_add, Nat.zero_add, cell_of_heap (World.alloc_heap_new W _)]
  simpa [clockC] using h
theorem clock_one : ∀ u ∈ clockC, u.oneCell' = true := by simp [clockC, Value.oneCell']

set_option maxHeartbeats 8000000 in
set_option maxRecDepth 1000000 in
theorem ops_core (op parts n : Int) (nm : Bool) (x : Int) (hx : Go.bits .and .i64 parts 65535 = x) (x0 : 0 ≤ x) (m : Nat) (hm : x % 11 = (m : Int)) (hm10 : m ≤ 10) (hn0 : -9223372036854775808 ≤ n) (hn : n ≤ 9223372036854775807) (w : World) (ht : Tab w) :
    Calls Tryd.prog 8 #[.int .i64 op, .int .i64 parts, .bool nm, .int .i64 n] w fun e w' => e = .returned (.bool true) ∧ Below w.heap.size w w' := by
  obtain ⟨i0, hi, hz0, hz1, hz2⟩ := info_parts infoE
  have HT := Lib.hid ht
  have HN := Lib.hid hn
  have HR := Lib.hid (fun k => ops_right op n (opS nm) k)
  have HC := Lib.hid (ops_cases op n nm m hn)
  have hmod : Int.tmod x 11 = x % 11 := Int.tmod_eq_emod_of_nonneg x0
  rw [hm] at hmod
  clear ht
  cases nm with
  | false =>
    go_enter Tryd.func8, Tryd.ntmps8
    go_wp2_with (go_at_call 11; refine (shown_r _ HT.out).mono ?_; rintro e w1 ⟨rfl, hb⟩; have HW1 : Hid (Below w.heap.size w w1) := hb; have HT1 : Hid (Tab w1) := HT.out.below hb; clear hb)
    go_loopw [11] (fun i wr => ∃ (k : Nat) (v : Value), i = .int .i64 k ∧ k ≤ m ∧ Hid (wr.heap[w1.heap.size]? = some (.cells #[.int .i64 op, .int .i64 n, .string ⟨#[]⟩, v] 41 (0, 0))) ∧ Hid (wr.ownsRow (w1.heap.size + 1) 41 4 v k (clocks k)) ∧ Hid (Below w1.heap.size w1 wr)) (fun i _ => m - (intOf i).toNat)
    case atStart => exact ⟨0, .slice none 0 0, rfl, Nat.zero_le _, World.alloc_heap_new _ _, ⟨rfl, .inl ⟨rfl, rfl⟩⟩, (Below.refl _ _).alloc (Nat.le_refl _) _⟩
    case round =>
      obtain ⟨k, v, rfl, hk, HH, HO, HB⟩ := hrel
      have c3 : wr.cell? ⟨w1.heap.size, 3, none⟩ = some v := cell_of_heap HH.out 3
      have hlw : w1.heap.size < wr.heap.size := lt_of_heap HH.out
      by_cases hlt : k < m
      · have HC1 := Lib.hid (clock_new wr)
        have HH1 : Hid ((wr.alloc (.cells #[.int .i64 3, .int .i64 0, .string ⟨#[]⟩, .slice none 0 0] 41)).heap[w1.heap.size]? = some (.cells #[.int .i64 op, .int .i64 n, .string ⟨#[]⟩, v] 41 (0, 0))) := own_of_grown HH.out (World.grownBy_alloc wr _ none) (by simp)
        have HBk : Hid (k ≤ 10) := by show k ≤ 10; omega
        go_wp2_with (at_builtin; refine wpList_append_own _ rfl _ _ 36 rfl (w1.heap.size + 1) 41 i0 (.agg #[.int .i64 0, .int .i64 0, .string ⟨#[]⟩, .slice none 0 0]) 4 56 Tryd.underlying36 hi hz0 hz1 hz2 rfl (by decide) _ _ _ rfl (HO.out.alloc _) ⟨wr.heap.size, 0, none⟩ 1 1 clockC rfl rfl HC1.out clock_one (by have := HBk.out; unfold maxLen; omega) (by have := HBk.out; omega) (by rw [World.size_alloc]; omega) ?_; intro v' w2 hown' hgrow _; obtain ⟨g', cap', rfl⟩ := ownsRow_succ hown'; have HO2 := Lib.hid hown'; have HH2 := Lib.hid (own_of_grown HH1.out hgrow (own_ne HO.out (Nat.lt_succ_self _))); have HB2 : Hid (Below w1.heap.size w1 w2) := below_grown (hb_alloc HB _).out (by rw [World.size_alloc]; omega) hgrow (fun r e => by have := own_ne HO.out (B := r); by_cases hr : r < w1.heap.size + 1; exact absurd e.symm (this hr); omega); have d3 : w2.cell? ⟨w1.heap.size, 3, none⟩ = some v := cell_of_heap HH2.out 3; have f3 : w2.frozen? ⟨w1.heap.size, 3, none⟩ = false := free_of_heap HH2.out 3; clear hown' hgrow)
        go_roundw
        case rel => exact ⟨k + 1, _, by go_num, by omega, heap_set HH2.out 3 _, by show World.ownsRow _ _ _ _ _ _ _; rw [← clocks_next]; exact HO2.out.kept (grown_set w2 _ 3 _) (.inr (fun e => own_ne HO2.out (Nat.lt_succ_self _) e.symm)), HB2.out.setCell (p := ⟨w1.heap.size, 3, none⟩) (Nat.le_refl _) _⟩
        case measure => simp [intOf]; omega
      · obtain rfl : k = m := by omega
        have c0 : wr.cell? ⟨w1.heap.size, 0, none⟩ = some (.int .i64 op) := cell_of_heap HH.out 0
        have c1 : wr.cell? ⟨w1.heap.size, 1, none⟩ = some (.int .i64 n) := cell_of_heap HH.out 1
        have c2 := cell_of_heap HH.out 2
        simp only [List.getElem?_toArray, List.getElem?_cons_succ, List.getElem?_cons_zero] at c2
        have hes := own_es HO.out
        obtain ⟨va, vn, vc, rfl⟩ : ∃ a n c, v = .slice a n c := by obtain ⟨a, c, h⟩ := hes.shape0; exact ⟨a, _, c, h⟩
        have HA1 := Lib.hid (Below.alloc HB.out HB.out.size (.cells #[.int .i64 op, .int .i64 n, .string ⟨#[]⟩, .slice va vn vc] 41))
        have HP := Lib.hid (PR.of (FSl.nil _) (SSl.one (o := 5) (n := 0) (s := ⟨#[]⟩) (heap_new2 wr (.cells #[.int .i64 op, .int .i64 n, .string ⟨#[]⟩, .slice va vn vc] 41) (.cells #[.int .i64 5, .string ⟨#[]⟩, .int .i64 0, .slice (some ⟨wr.heap.size, 0, none⟩) 1 1, .slice none 0 0, .slice none 0 0] 38)) (ESl.one (own_of_grown (World.alloc_heap_new wr (.cells #[.int .i64 op, .int .i64 n, .string ⟨#[]⟩, .slice va vn vc] 41)) (World.grownBy_alloc _ _ none) (by simp)) (hes.stay (((Below.refl _ _).alloc (Nat.le_refl _) _).alloc (by simp) _))) (SSl.nil _) (SSl.nil _)))
        have HT2 := Lib.hid (HT1.out.below (Below.alloc HA1.out HA1.out.size (.cells #[.int .i64 5, .string ⟨#[]⟩, .int .i64 0, .slice (some ⟨wr.heap.size, 0, none⟩) 1 1, .slice none 0 0, .slice none 0 0] 38)))
        have HB2 := Lib.hid (Below.alloc HA1.out HA1.out.size (.cells #[.int .i64 5, .string ⟨#[]⟩, .int .i64 0, .slice (some ⟨wr.heap.size, 0, none⟩) 1 1, .slice none 0 0, .slice none 0 0] 38))
        clear hes
        have hcc := HC.out
        have HR1 := Lib.hid (HR.out k)
        clear HC HR
        rcases hcc with ⟨ho, he⟩ | ⟨ho, he⟩ | ⟨ho, he⟩ | ⟨ho, he⟩ | ⟨ho, he⟩ | ⟨ho, he⟩ | ⟨ho, he⟩ | ⟨ho, he⟩ | ⟨ho, he⟩
        · subst ho
          obtain ⟨b1, e1⟩ : ∃ b, ((k : Int) == 0) = b := ⟨_, rfl⟩
          obtain ⟨b2, e2⟩ : ∃ b, decide (0 ≤ n) = b := ⟨_, rfl⟩
          rw [e1, e2] at he
          have hbb : b1 = false ∨ (b1 = true ∧ (b2 = false ∨ b2 = true)) := by cases b1 <;> cases b2 <;> simp
          rcases hbb with rfl | ⟨rfl, rfl | rfl⟩
          all_goals
            first | have hr := Lib.hid (show PT.right _ = 0 from HR1.out.trans (by rw [he]; rfl)) | have hr := Lib.hid (show PT.right _ = 1 from HR1.out.trans (by rw [he]; rfl))
            clear he
            go_wp2_with (go_at_call 12; refine (right_r none _ 0 1 0 1 _ _ HT2.out HP.out _ hr.out).mono ?_; rintro e w4 ⟨rfl, hb⟩; have HB4 : Hid (Below w1.heap.size w1 w4) := hb_step HB2 hb; clear hb)
            go_ret
            exact ⟨rfl, HW1.out.trans (HB4.out.mono HW1.out.size)⟩
        · subst ho
          obtain ⟨b1, e1⟩ : ∃ b, ((k : Int) == 0) = b := ⟨_, rfl⟩
          obtain ⟨b2, e2⟩ : ∃ b, (n == 0) = b := ⟨_, rfl⟩
          rw [e1, e2] at he
          have hbb : b1 = false ∨ (b1 = true ∧ (b2 = false ∨ b2 = true)) := by cases b1 <;> cases b2 <;> simp
          rcases hbb with rfl | ⟨rfl, rfl | rfl⟩
          all_goals
            first | have hr := Lib.hid (show PT.right _ = 0 from HR1.out.trans (by rw [he]; rfl)) | have hr := Lib.hid (show PT.right _ = 1 from HR1.out.trans (by rw [he]; rfl))
            clear he
            go_wp2_with (go_at_call 12; refine (right_r none _ 0 1 0 1 _ _ HT2.out HP.out _ hr.out).mono ?_; rintro e w4 ⟨rfl, hb⟩; have HB4 : Hid (Below w1.heap.size w1 w4) := hb_step HB2 hb; clear hb)
            go_ret
            exact ⟨rfl, HW1.out.trans (HB4.out.mono HW1.out.size)⟩
        · subst ho
          obtain ⟨b1, e1⟩ : ∃ b, ((k : Int) == 0) = b := ⟨_, rfl⟩
          obtain ⟨b2, e2⟩ : ∃ b, (n == 0) = b := ⟨_, rfl⟩
          rw [e1, e2] at he
          have hbb : b1 = false ∨ (b1 = true ∧ (b2 = false ∨ b2 = true)) := by cases b1 <;> cases b2 <;> simp
          rcases hbb with rfl | ⟨rfl, rfl | rfl⟩
          all_goals
            first | have hr := Lib.hid (show PT.right _ = 0 from HR1.out.trans (by rw [he]; rfl)) | have hr := Lib.hid (show PT.right _ = 1 from HR1.out.trans (by rw [he]; rfl))
            clear he
            go_wp2_with (go_at_call 12; refine (right_r none _ 0 1 0 1 _ _ HT2.out HP.out _ hr.out).mono ?_; rintro e w4 ⟨rfl, hb⟩; have HB4 : Hid (Below w1.heap.size w1 w4) := hb_step HB2 hb; clear hb)
            go_ret
            exact ⟨rfl, HW1.out.trans (HB4.out.mono HW1.out.size)⟩
        · subst ho
          obtain ⟨b1, e1⟩ : ∃ b, ((k : Int) == 1) = b := ⟨_, rfl⟩
          obtain ⟨b2, e2⟩ : ∃ b, (n == 0) = b := ⟨_, rfl⟩
          rw [e1, e2] at he
          have hbb : b1 = false ∨ (b1 = true ∧ (b2 = false ∨ b2 = true)) := by cases b1 <;> cases b2 <;> simp
          rcases hbb with rfl | ⟨rfl, rfl | rfl⟩
          all_goals
            first | have hr := Lib.hid (show PT.right _ = 0 from HR1.out.trans (by rw [he]; rfl)) | have hr := Lib.hid (show PT.right _ = 1 from HR1.out.trans (by rw [he]; rfl))
            clear he
            go_wp2_with (go_at_call 12; refine (right_r none _ 0 1 0 1 _ _ HT2.out HP.out _ hr.out).mono ?_; rintro e w4 ⟨rfl, hb⟩; have HB4 : Hid (Below w1.heap.size w1 w4) := hb_step HB2 hb; clear hb)
            go_ret
            exact ⟨rfl, HW1.out.trans (HB4.out.mono HW1.out.size)⟩
        · subst ho
          obtain ⟨b1, e1⟩ : ∃ b, decide ((k : Int) ≤ 8) = b := ⟨_, rfl⟩
          obtain ⟨b2, e2⟩ : ∃ b, (n == 0) = b := ⟨_, rfl⟩
          rw [e1, e2] at he
          have hbb : b1 = false ∨ (b1 = true ∧ (b2 = false ∨ b2 = true)) := by cases b1 <;> cases b2 <;> simp
          rcases hbb with rfl | ⟨rfl, rfl | rfl⟩
          all_goals
            first | have hr := Lib.hid (show PT.right _ = 0 from HR1.out.trans (by rw [he]; rfl)) | have hr := Lib.hid (show PT.right _ = 1 from HR1.out.trans (by rw [he]; rfl))
            clear he
            go_wp2_with (go_at_call 12; refine (right_r none _ 0 1 0 1 _ _ HT2.out HP.out _ hr.out).mono ?_; rintro e w4 ⟨rfl, hb⟩; have HB4 : Hid (Below w1.heap.size w1 w4) := hb_step HB2 hb; clear hb)
            go_ret
            exact ⟨rfl, HW1.out.trans (HB4.out.mono HW1.out.size)⟩
        · subst ho
          obtain ⟨b1, e1⟩ : ∃ b, ((k : Int) == 1) = b := ⟨_, rfl⟩
          obtain ⟨b2, e2⟩ : ∃ b, (n == 0) = b := ⟨_, rfl⟩
          rw [e1, e2] at he
          have hbb : b1 = false ∨ (b1 = true ∧ (b2 = false ∨ b2 = true)) := by cases b1 <;> cases b2 <;> simp
          rcases hbb with rfl | ⟨rfl, rfl | rfl⟩
          all_goals
            first | have hr := Lib.hid (show PT.right _ = 0 from HR1.out.trans (by rw [he]; rfl)) | have hr := Lib.hid (show PT.right _ = 1 from HR1.out.trans (by rw [he]; rfl))
            clear he
            go_wp2_with (go_at_call 12; refine (right_r none _ 0 1 0 1 _ _ HT2.out HP.out _ hr.out).mono ?_; rintro e w4 ⟨rfl, hb⟩; have HB4 : Hid (Below w1.heap.size w1 w4) := hb_step HB2 hb; clear hb)
            go_ret
            exact ⟨rfl, HW1.out.trans (HB4.out.mono HW1.out.size)⟩
        · subst ho
          obtain ⟨b1, e1⟩ : ∃ b, ((k : Int) == 1) = b := ⟨_, rfl⟩
          obtain ⟨b2, e2⟩ : ∃ b, (n == 0) = b := ⟨_, rfl⟩
          rw [e1, e2] at he
          have hbb : b1 = false ∨ (b1 = true ∧ (b2 = false ∨ b2 = true)) := by cases b1 <;> cases b2 <;> simp
          rcases hbb with rfl | ⟨rfl, rfl | rfl⟩
          all_goals
            first | have hr := Lib.hid (show PT.right _ = 0 from HR1.out.trans (by rw [he]; rfl)) | have hr := Lib.hid (show PT.right _ = 1 from HR1.out.trans (by rw [he]; rfl))
            clear he
            go_wp2_with (go_at_call 12; refine (right_r none _ 0 1 0 1 _ _ HT2.out HP.out _ hr.out).mono ?_; rintro e w4 ⟨rfl, hb⟩; have HB4 : Hid (Below w1.heap.size w1 w4) := hb_step HB2 hb; clear hb)
            go_ret
            exact ⟨rfl, HW1.out.trans (HB4.out.mono HW1.out.size)⟩
        · obtain ⟨o1, o2⟩ := ho
          have p1 : (op == 1) = false := by (simp; omega)
          have p2 : (op == 2) = false := by (simp; omega)
          have p3 : (op == 3) = false := by (simp; omega)
          have p4 : (op == 4) = false := by (simp; omega)
          have p5 : (op == 5) = false := by (simp; omega)
          have p6 : (op == 6) = false := by (simp; omega)
          have p7 : (op == 7) = false := by (simp; omega)
          have u1 : decide (8 ≤ op) = true := decide_eq_true o1
          have u2 : decide (op ≤ 16) = true := decide_eq_true o2
          clear o1 o2
          obtain ⟨b1, e1⟩ : ∃ b, ((k : Int) == 2) = b := ⟨_, rfl⟩
          obtain ⟨b2, e2⟩ : ∃ b, (n == 0) = b := ⟨_, rfl⟩
          rw [e1, e2] at he
          have hbb : b1 = false ∨ (b1 = true ∧ (b2 = false ∨ b2 = true)) := by cases b1 <;> cases b2 <;> simp
          rcases hbb with rfl | ⟨rfl, rfl | rfl⟩
          all_goals
            first | have hr := Lib.hid (show PT.right _ = 0 from HR1.out.trans (by rw [he]; rfl)) | have hr := Lib.hid (show PT.right _ = 1 from HR1.out.trans (by rw [he]; rfl))
            clear he
            go_wp2_with (go_at_call 12; refine (right_r none _ 0 1 0 1 _ _ HT2.out HP.out _ hr.out).mono ?_; rintro e w4 ⟨rfl, hb⟩; have HB4 : Hid (Below w1.heap.size w1 w4) := hb_step HB2 hb; clear hb)
            go_ret
            exact ⟨rfl, HW1.out.trans (HB4.out.mono HW1.out.size)⟩
        · have p0 : (8 ≤ op ∧ op ≤ 16) → False := by omega
          have p1 : (op == 1) = false := by (simp; omega)
          have p2 : (op == 2) = false := by (simp; omega)
          have p3 : (op == 3) = false := by (simp; omega)
          have p4 : (op == 4) = false := by (simp; omega)
          have p5 : (op == 5) = false := by (simp; omega)
          have p6 : (op == 6) = false := by (simp; omega)
          have p7 : (op == 7) = false := by (simp; omega)
          rcases ho with ho | ho
          · have u1 : decide (8 ≤ op) = false := decide_eq_false (by omega)
            clear ho p0
            first | have hr := Lib.hid (show PT.right _ = 0 from HR1.out.trans (by rw [he]; rfl)) | have hr := Lib.hid (show PT.right _ = 1 from HR1.out.trans (by rw [he]; rfl))
            clear he
            go_wp2_with (go_at_call 12; refine (right_r none _ 0 1 0 1 _ _ HT2.out HP.out _ hr.out).mono ?_; rintro e w4 ⟨rfl, hb⟩; have HB4 : Hid (Below w1.heap.size w1 w4) := hb_step HB2 hb; clear hb)
            go_ret
            exact ⟨rfl, HW1.out.trans (HB4.out.mono HW1.out.size)⟩
          · have u1 : decide (8 ≤ op) = true := decide_eq_true (by omega)
            have u2 : decide (op ≤ 16) = false := decide_eq_false (by omega)
            clear ho p0
            first | have hr := Lib.hid (show PT.right _ = 0 from HR1.out.trans (by rw [he]; rfl)) | have hr := Lib.hid (show PT.right _ = 1 from HR1.out.trans (by rw [he]; rfl))
            clear he
            go_wp2_with (go_at_call 12; refine (right_r none _ 0 1 0 1 _ _ HT2.out HP.out _ hr.out).mono ?_; rintro e w4 ⟨rfl, hb⟩; have HB4 : Hid (Below w1.heap.size w1 w4) := hb_step HB2 hb; clear hb)
            go_ret
            exact ⟨rfl, HW1.out.trans (HB4.out.mono HW1.out.size)⟩
  | true =>
    go_enter Tryd.func8, Tryd.ntmps8
    go_wp2_with (go_at_call 11; refine (shown_r _ HT.out).mono ?_; rintro e w1 ⟨rfl, hb⟩; have HW1 : Hid (Below w.heap.size w w1) := hb; have HT1 : Hid (Tab w1) := HT.out.below hb; clear hb)
    go_loopw [11] (fun i wr => ∃ (k : Nat) (v : Value), i = .int .i64 k ∧ k ≤ m ∧ Hid (wr.heap[w1.heap.size]? = some (.cells #[.int .i64 op, .int .i64 n, .string ⟨#[113]⟩, v] 41 (0, 0))) ∧ Hid (wr.ownsRow (w1.heap.size + 1) 41 4 v k (clocks k)) ∧ Hid (Below w1.heap.size w1 wr)) (fun i _ => m - (intOf i).toNat)
    case atStart => exact ⟨0, .slice none 0 0, rfl, Nat.zero_le _, World.alloc_heap_new _ _, ⟨rfl, .inl ⟨rfl, rfl⟩⟩, (Below.refl _ _).alloc (Nat.le_refl _) _⟩
    case round =>
      obtain ⟨k, v, rfl, hk, HH, HO, HB⟩ := hrel
      have c3 : wr.cell? ⟨w1.heap.size, 3, none⟩ = some v := cell_of_heap HH.out 3
      have hlw : w1.heap.size < wr.heap.size := lt_of_heap HH.out
      by_cases hlt : k < m
      · have HC1 := Lib.hid (clock_new wr)
        have HH1 : Hid ((wr.alloc (.cells #[.int .i64 3, .int .i64 0, .string ⟨#[]⟩, .slice none 0 0] 41)).heap[w1.heap.size]? = some (.cells #[.int .i64 op, .int .i64 n, .string ⟨#[113]⟩, v] 41 (0, 0))) := own_of_grown HH.out (World.grownBy_alloc wr _ none) (by simp)
        have HBk : Hid (k ≤ 10) := by show k ≤ 10; omega
        go_wp2_with (at_builtin; refine wpList_append_own _ rfl _ _ 36 rfl (w1.heap.size + 1) 41 i0 (.agg #[.int .i64 0, .int .i64 0, .string ⟨#[]⟩, .slice none 0 0]) 4 56 Tryd.underlying36 hi hz0 hz1 hz2 rfl (by decide) _ _ _ rfl (HO.out.alloc _) ⟨wr.heap.size, 0, none⟩ 1 1 clockC rfl rfl HC1.out clock_one (by have := HBk.out; unfold maxLen; omega) (by have := HBk.out; omega) (by rw [World.size_alloc]; omega) ?_; intro v' w2 hown' hgrow _; obtain ⟨g', cap', rfl⟩ := ownsRow_succ hown'; have HO2 := Lib.hid hown'; have HH2 := Lib.hid (own_of_grown HH1.out hgrow (own_ne HO.out (Nat.lt_succ_self _))); have HB2 : Hid (Below w1.heap.size w1 w2) := below_grown (hb_alloc HB _).out (by rw [World.size_alloc]; omega) hgrow (fun r e => by have := own_ne HO.out (B := r); by_cases hr : r < w1.heap.size + 1; exact absurd e.symm (this hr); omega); have d3 : w2.cell? ⟨w1.heap.size, 3, none⟩ = some v := cell_of_heap HH2.out 3; have f3 : w2.frozen? ⟨w1.heap.size, 3, none⟩ = false := free_of_heap HH2.out 3; clear hown' hgrow)
        go_roundw
        case rel => exact ⟨k + 1, _, by go_num, by omega, heap_set HH2.out 3 _, by show World.ownsRow _ _ _ _ _ _ _; rw [← clocks_next]; exact HO2.out.kept (grown_set w2 _ 3 _) (.inr (fun e => own_ne HO2.out (Nat.lt_succ_self _) e.symm)), HB2.out.setCell (p := ⟨w1.heap.size, 3, none⟩) (Nat.le_refl _) _⟩
        case measure => simp [intOf]; omega
      · obtain rfl : k = m := by omega
        have c0 : wr.cell? ⟨w1.heap.size, 0, none⟩ = some (.int .i64 op) := cell_of_heap HH.out 0
        have c1 : wr.cell? ⟨w1.heap.size, 1, none⟩ = some (.int .i64 n) := cell_of_heap HH.out 1
        have c2 := cell_of_heap HH.out 2
        simp only [List.getElem?_toArray, List.getElem?_cons_succ, List.getElem?_cons_zero] at c2
        have hes := own_es HO.out
        obtain ⟨va, vn, vc, rfl⟩ : ∃ a n c, v = .slice a n c := by obtain ⟨a, c, h⟩ := hes.shape0; exact ⟨a, _, c, h⟩
        have HA1 := Lib.hid (Below.alloc HB.out HB.out.size (.cells #[.int .i64 op, .int .i64 n, .string ⟨#[113]⟩, .slice va vn vc] 41))
        have HP := Lib.hid (PR.of (FSl.nil _) (SSl.one (o := 5) (n := 0) (s := ⟨#[]⟩) (heap_new2 wr (.cells #[.int .i64 op, .int .i64 n, .string ⟨#[113]⟩, .slice va vn vc] 41) (.cells #[.int .i64 5, .string ⟨#[]⟩, .int .i64 0, .slice (some ⟨wr.heap.size, 0, none⟩) 1 1, .slice none 0 0, .slice none 0 0] 38)) (ESl.one (own_of_grown (World.alloc_heap_new wr (.cells #[.int .i64 op, .int .i64 n, .string ⟨#[113]⟩, .slice va vn vc] 41)) (World.grownBy_alloc _ _ none) (by simp)) (hes.stay (((Below.refl _ _).alloc (Nat.le_refl _) _).alloc (by simp) _))) (SSl.nil _) (SSl.nil _)))
        have HT2 := Lib.hid (HT1.out.below (Below.alloc HA1.out HA1.out.size (.cells #[.int .i64 5, .string ⟨#[]⟩, .int .i64 0, .slice (some ⟨wr.heap.size, 0, none⟩) 1 1, .slice none 0 0, .slice none 0 0] 38)))
        have HB2 := Lib.hid (Below.alloc HA1.out HA1.out.size (.cells #[.int .i64 5, .string ⟨#[]⟩, .int .i64 0, .slice (some ⟨wr.heap.size, 0, none⟩) 1 1, .slice none 0 0, .slice none 0 0] 38))
        clear hes
        have hcc := HC.out
        have HR1 := Lib.hid (HR.out k)
        clear HC HR
        rcases hcc with ⟨ho, he⟩ | ⟨ho, he⟩ | ⟨ho, he⟩ | ⟨ho, he⟩ | ⟨ho, he⟩ | ⟨ho, he⟩ | ⟨ho, he⟩ | ⟨ho, he⟩ | ⟨ho, he⟩
        · subst ho
          obtain ⟨b1, e1⟩ : ∃ b, ((k : Int) == 0) = b := ⟨_, rfl⟩
          obtain ⟨b2, e2⟩ : ∃ b, decide (0 ≤ n) = b := ⟨_, rfl⟩
          rw [e1, e2] at he
          have hbb : b1 = false ∨ (b1 = true ∧ (b2 = false ∨ b2 = true)) := by cases b1 <;> cases b2 <;> simp
          rcases hbb with rfl | ⟨rfl, rfl | rfl⟩
          all_goals
            first | have hr := Lib.hid (show PT.right _ = 0 from HR1.out.trans (by rw [he]; rfl)) | have hr := Lib.hid (show PT.right _ = 1 from HR1.out.trans (by rw [he]; rfl))
            clear he
            go_wp2_with (go_at_call 12; refine (right_r none _ 0 1 0 1 _ _ HT2.out HP.out _ hr.out).mono ?_; rintro e w4 ⟨rfl, hb⟩; have HB4 : Hid (Below w1.heap.size w1 w4) := hb_step HB2 hb; clear hb)
            go_ret
            exact ⟨rfl, HW1.out.trans (HB4.out.mono HW1.out.size)⟩
        · subst ho
          obtain ⟨b1, e1⟩ : ∃ b, ((k : Int) == 0) = b := ⟨_, rfl⟩
          obtain ⟨b2, e2⟩ : ∃ b, (n == 0) = b := ⟨_, rfl⟩
          rw [e1, e2] at he
          have hbb : b1 = false ∨ (b1 = true ∧ (b2 = false ∨ b2 = true)) := by cases b1 <;> cases b2 <;> simp
          rcases hbb with rfl | ⟨rfl, rfl | rfl⟩
          all_goals
            first | have hr := Lib.hid (show PT.right _ = 0 from HR1.out.trans (by rw [he]; rfl)) | have hr := Lib.hid (show PT.right _ = 1 from HR1.out.trans (by rw [he]; rfl))
            clear he
            go_wp2_with (go_at_call 12; refine (right_r none _ 0 1 0 1 _ _ HT2.out HP.out _ hr.out).mono ?_; rintro e w4 ⟨rfl, hb⟩; have HB4 : Hid (Below w1.heap.size w1 w4) := hb_step HB2 hb; clear hb)
            go_ret
            exact ⟨rfl, HW1.out.trans (HB4.out.mono HW1.out.size)⟩
        · subst ho
          obtain ⟨b1, e1⟩ : ∃ b, ((k : Int) == 0) = b := ⟨_, rfl⟩
          obtain ⟨b2, e2⟩ : ∃ b, (n == 0) = b := ⟨_, rfl⟩
          rw [e1, e2] at he
          have hbb : b1 = false ∨ (b1 = true ∧ (b2 = false ∨ b2 = true)) := by cases b1 <;> cases b2 <;> simp
          rcases hbb with rfl | ⟨rfl, rfl | rfl⟩
          all_goals
            first | have hr := Lib.hid (show PT.right _ = 0 from HR1.out.trans (by rw [he]; rfl)) | have hr := Lib.hid (show PT.right _ = 1 from HR1.out.trans (by rw [he]; rfl))
            clear he
            go_wp2_with (go_at_call 12; refine (right_r none _ 0 1 0 1 _ _ HT2.out HP.out _ hr.out).mono ?_; rintro e w4 ⟨rfl, hb⟩; have HB4 : Hid (Below w1.heap.size w1 w4) := hb_step HB2 hb; clear hb)
            go_ret
            exact ⟨rfl, HW1.out.trans (HB4.out.mono HW1.out.size)⟩
        · subst ho
          obtain ⟨b1, e1⟩ : ∃ b, ((k : Int) == 1) = b := ⟨_, rfl⟩
          obtain ⟨b2, e2⟩ : ∃ b, (n == 0) = b := ⟨_, rfl⟩
          rw [e1, e2] at he
          have hbb : b1 = false ∨ (b1 = true ∧ (b2 = false ∨ b2 = true)) := by cases b1 <;> cases b2 <;> simp
          rcases hbb with rfl | ⟨rfl, rfl | rfl⟩
          all_goals
            first | have hr := Lib.hid (show PT.right _ = 0 from HR1.out.trans (by rw [he]; rfl)) | have hr := Lib.hid (show PT.right _ = 1 from HR1.out.trans (by rw [he]; rfl))
            clear he
            go_wp2_with (go_at_call 12; refine (right_r none _ 0 1 0 1 _ _ HT2.out HP.out _ hr.out).mono ?_; rintro e w4 ⟨rfl, hb⟩; have HB4 : Hid (Below w1.heap.size w1 w4) := hb_step HB2 hb; clear hb)
            go_ret
            exact ⟨rfl, HW1.out.trans (HB4.out.mono HW1.out.size)⟩
        · subst ho
          obtain ⟨b1, e1⟩ : ∃ b, decide ((k : Int) ≤ 8) = b := ⟨_, rfl⟩
          obtain ⟨b2, e2⟩ : ∃ b, (n == 0) = b := ⟨_, rfl⟩
          rw [e1, e2] at he
          have hbb : b1 = false ∨ (b1 = true ∧ (b2 = false ∨ b2 = true)) := by cases b1 <;> cases b2 <;> simp
          rcases hbb with rfl | ⟨rfl, rfl | rfl⟩
          all_goals
            first | have hr := Lib.hid (show PT.right _ = 0 from HR1.out.trans (by rw [he]; rfl)) | have hr := Lib.hid (show PT.right _ = 1 from HR1.out.trans (by rw [he]; rfl))
            clear he
            go_wp2_with (go_at_call 12; refine (right_r none _ 0 1 0 1 _ _ HT2.out HP.out _ hr.out).mono ?_; rintro e w4 ⟨rfl, hb⟩; have HB4 : Hid (Below w1.heap.size w1 w4) := hb_step HB2 hb; clear hb)
            go_ret
            exact ⟨rfl, HW1.out.trans (HB4.out.mono HW1.out.size)⟩
        · subst ho
          obtain ⟨b1, e1⟩ : ∃ b, ((k : Int) == 1) = b := ⟨_, rfl⟩
          obtain ⟨b2, e2⟩ : ∃ b, (n == 0) = b := ⟨_, rfl⟩
          rw [e1, e2] at he
          have hbb : b1 = false ∨ (b1 = true ∧ (b2 = false ∨ b2 = true)) := by cases b1 <;> cases b2 <;> simp
          rcases hbb with rfl | ⟨rfl, rfl | rfl⟩
          all_goals
            first | have hr := Lib.hid (show PT.right _ = 0 from HR1.out.trans (by rw [he]; rfl)) | have hr := Lib.hid (show PT.right _ = 1 from HR1.out.trans (by rw [he]; rfl))
            clear he
            go_wp2_with (go_at_call 12; refine (right_r none _ 0 1 0 1 _ _ HT2.out HP.out _ hr.out).mono ?_; rintro e w4 ⟨rfl, hb⟩; have HB4 : Hid (Below w1.heap.size w1 w4) := hb_step HB2 hb; clear hb)
            go_ret
            exact ⟨rfl, HW1.out.trans (HB4.out.mono HW1.out.size)⟩
        · subst ho
          obtain ⟨b1, e1⟩ : ∃ b, ((k : Int) == 1) = b := ⟨_, rfl⟩
          obtain ⟨b2, e2⟩ : ∃ b, (n == 0) = b := ⟨_, rfl⟩
          rw [e1, e2] at he
          have hbb : b1 = false ∨ (b1 = true ∧ (b2 = false ∨ b2 = true)) := by cases b1 <;> cases b2 <;> simp
          rcases hbb with rfl | ⟨rfl, rfl | rfl⟩
          all_goals
            first | have hr := Lib.hid (show PT.right _ = 0 from HR1.out.trans (by rw [he]; rfl)) | have hr := Lib.hid (show PT.right _ = 1 from HR1.out.trans (by rw [he]; rfl))
            clear he
            go_wp2_with (go_at_call 12; refine (right_r none _ 0 1 0 1 _ _ HT2.out HP.out _ hr.out).mono ?_; rintro e w4 ⟨rfl, hb⟩; have HB4 : Hid (Below w1.heap.size w1 w4) := hb_step HB2 hb; clear hb)
            go_ret
            exact ⟨rfl, HW1.out.trans (HB4.out.mono HW1.out.size)⟩
        · obtain ⟨o1, o2⟩ := ho
          have p1 : (op == 1) = false := by (simp; omega)
          have p2 : (op == 2) = false := by (simp; omega)
          have p3 : (op == 3) = false := by (simp; omega)
          have p4 : (op == 4) = false := by (simp; omega)
          have p5 : (op == 5) = false := by (simp; omega)
          have p6 : (op == 6) = false := by (simp; omega)
          have p7 : (op == 7) = false := by (simp; omega)
          have u1 : decide (8 ≤ op) = true := decide_eq_true o1
          have u2 : decide (op ≤ 16) = true := decide_eq_true o2
          clear o1 o2
          obtain ⟨b1, e1⟩ : ∃ b, ((k : Int) == 2) = b := ⟨_, rfl⟩
          obtain ⟨b2, e2⟩ : ∃ b, (n == 0) = b := ⟨_, rfl⟩
          rw [e1, e2] at he
          have hbb : b1 = false ∨ (b1 = true ∧ (b2 = false ∨ b2 = true)) := by cases b1 <;> cases b2 <;> simp
          rcases hbb with rfl | ⟨rfl, rfl | rfl⟩
          all_goals
            first | have hr := Lib.hid (show PT.right _ = 0 from HR1.out.trans (by rw [he]; rfl)) | have hr := Lib.hid (show PT.right _ = 1 from HR1.out.trans (by rw [he]; rfl))
            clear he
            go_wp2_with (go_at_call 12; refine (right_r none _ 0 1 0 1 _ _ HT2.out HP.out _ hr.out).mono ?_; rintro e w4 ⟨rfl, hb⟩; have HB4 : Hid (Below w1.heap.size w1 w4) := hb_step HB2 hb; clear hb)
            go_ret
            exact ⟨rfl, HW1.out.trans (HB4.out.mono HW1.out.size)⟩
        · have p0 : (8 ≤ op ∧ op ≤ 16) → False := by omega
          have p1 : (op == 1) = false := by (simp; omega)
          have p2 : (op == 2) = false := by (simp; omega)
          have p3 : (op == 3) = false := by (simp; omega)
          have p4 : (op == 4) = false := by (simp; omega)
          have p5 : (op == 5) = false := by (simp; omega)
          have p6 : (op == 6) = false := by (simp; omega)
          have p7 : (op == 7) = false := by (simp; omega)
          rcases ho with ho | ho
          · have u1 : decide (8 ≤ op) = false := decide_eq_false (by omega)
            clear ho p0
            first | have hr := Lib.hid (show PT.right _ = 0 from HR1.out.trans (by rw [he]; rfl)) | have hr := Lib.hid (show PT.right _ = 1 from HR1.out.trans (by rw [he]; rfl))
            clear he
            go_wp2_with (go_at_call 12; refine (right_r none _ 0 1 0 1 _ _ HT2.out HP.out _ hr.out).mono ?_; rintro e w4 ⟨rfl, hb⟩; have HB4 : Hid (Below w1.heap.size w1 w4) := hb_step HB2 hb; clear hb)
            go_ret
            exact ⟨rfl, HW1.out.trans (HB4.out.mono HW1.out.size)⟩
          · have u1 : decide (8 ≤ op) = true := decide_eq_true (by omega)
            have u2 : decide (op ≤ 16) = false := decide_eq_false (by omega)
            clear ho p0
            first | have hr := Lib.hid (show PT.right _ = 0 from HR1.out.trans (by rw [he]; rfl)) | have hr := Lib.hid (show PT.right _ = 1 from HR1.out.trans (by rw [he]; rfl))
            clear he
            go_wp2_with (go_at_call 12; refine (right_r none _ 0 1 0 1 _ _ HT2.out HP.out _ hr.out).mono ?_; rintro e w4 ⟨rfl, hb⟩; have HB4 : Hid (Below w1.heap.size w1 w4) := hb_step HB2 hb; clear hb)
            go_ret
            exact ⟨rfl, HW1.out.trans (HB4.out.mono HW1.out.size)⟩

theorem ops_walk (op parts : Int) (nm : Bool) (n : Int) (hn : -9223372036854775808 ≤ n ∧ n ≤ 9223372036854775807) (w : World) (ht : Tab w) :
    Calls Tryd.prog 8 #[.int .i64 op, .int .i64 parts, .bool nm, .int .i64 n] w fun e w' => e = .returned (.bool true) ∧ Below w.heap.size w w' := by
  obtain ⟨x, hx, x0, x1⟩ := bits_16 parts
  obtain ⟨m, hm⟩ : ∃ m : Nat, x % 11 = (m : Int) := ⟨(x % 11).toNat, by omega⟩
  exact ops_core op parts n nm x hx x0 m hm (by omega) hn.1 hn.2 w ht
end Go.Proofs.YtplckmpamekloaaDoor
