/- CompileTells: for every input of the bulk that the row names the law returns true; its row and its card. Conditions: the row's own (what package-level variables hold when the call begins; the bulk). -/
import Derived.Test.YthjjcmmonjajhaaGreatDoorCards
import Derived.Test.YthjjcmmonjajhaaGreatDoorTie
import Derived.Test.YthjjcmmonjajhaaGreatDoorCompTop
import Derived.WalkKit
import Derived.ProofKit
import Derived.OpenShut
import Derived.ShutString
import Derived.Deep.DeepHandedRow
import Derived.Lib.LaidTab
import Derived.SizedLaws
namespace Go.Proofs.YthjjcmmonjajhaaGreatDoor.compileTellsUpto
open Go.ChangeShapes Go.WideShapes Go.ChangeAt Go.RowKit
open Go.ChangeMaps (open_string shut_string)
set_option linter.unusedVariables false
theorem own : ownKnob Tryz.prog.godebug = none := by kernel_rfl
set_option maxRecDepth 100000
abbrev ShD (r : Shp) : DataW Unit := .agg [.lit (.bool r.1), .lit (.int .i64 r.2.1), .lit (.int .i64 r.2.2.1), .lit (.int .i64 r.2.2.2.1), .lit (.bool r.2.2.2.2.1), .lit (.bool r.2.2.2.2.2)]
theorem shape_of {enc : TypeId × Value → Unit} {W : World} {base : Nat} {sp : Nat → Bool} {held : Bool} {fuel : Nat} {cs : List Value} {r : Shp} {y : DataW Unit × List MemPlace} (h : DataW.trod enc Tryz.prog W base sp held fuel 153 cs = some y) (hy : y.1 = ShD r) : cs = shapeCells r := by
  obtain ⟨xs, m, _, rfl, hl, hxl, hf⟩ := DataW.trod_struct Tryz.underlying153 h
  have hc6 : Tryz.prog.cellsOf 153 = 6 := by kernel_rfl
  have hcb : Tryz.prog.cellsOf 4 = 1 := by kernel_rfl
  have hci : Tryz.prog.cellsOf 3 = 1 := by kernel_rfl
  have hcl : Tryz.prog.cellsOf 2 = 1 := by kernel_rfl
  rw [hc6] at hl
  match cs, hl with
  | [v0, v1, v2, v3, v4, v5], _ =>
    match xs, hxl with
    | [y0, y1, y2, y3, y4, y5], _ =>
      have h0 := hf 0 _ rfl
      have h1 := hf 1 _ rfl
      have h2 := hf 2 _ rfl
      have h3 := hf 3 _ rfl
      have h4 := hf 4 _ rfl
      have h5 := hf 5 _ rfl
      simp [hcb, hci, hcl] at h0 h1 h2 h3 h4 h5
      obtain ⟨n0, e0, rfl⟩ := DataW.trod_bool Tryz.underlying4 h0
      obtain ⟨n1, e1, rfl, _⟩ := DataW.trod_int Tryz.underlying2 h1
      obtain ⟨n2, e2, rfl, _⟩ := DataW.trod_int Tryz.underlying2 h2
      obtain ⟨n3, e3, rfl, _⟩ := DataW.trod_int Tryz.underlying3 h3
      obtain ⟨n4, e4, rfl⟩ := DataW.trod_bool Tryz.underlying4 h4
      obtain ⟨n5, e5, rfl⟩ := DataW.trod_bool Tryz.underlying4 h5
      simp only [ShD, List.map_cons, List.map_nil, DataW.agg.injEq, List.cons.injEq, DataW.lit.injEq, Lit.bool.injEq, Lit.int.injEq, true_and, and_true] at hy
      obtain ⟨q0, q1, q2, q3, q4, q5⟩ := hy
      cases e0; cases e1; cases e2; cases e3; cases e4; cases e5
      unfold shapeCells
      rw [← q0, ← q1, ← q2, ← q3, ← q4, ← q5]
theorem flat_of : ∀ (rs : List Shp) (cs : List Value), cs.length = rs.length * 6 → (∀ (i : Nat) (r : Shp), rs[i]? = some r → (cs.drop (i * 6)).take 6 = shapeCells r) → cs = rs.flatMap shapeCells := by
  intro rs
  induction rs with
  | nil => intro cs h _; simpa using h
  | cons r rs ih =>
    intro cs h hr
    have h0 := hr 0 r rfl
    have h1 := ih (cs.drop 6) (by simp at h ⊢; omega) (fun i r' hi => by
      have := hr (i + 1) r' hi
      rw [List.drop_drop]
      rw [show 6 + i * 6 = (i + 1) * 6 by omega]; exact this)
    rw [List.flatMap_cons, ← h1, ← h0]
    simp
theorem texpr {W : World} (h : laidMetH Tryz.prog [("evenhand/tree.exprs", Rows.laid_evenhand_tree_exprs)] W) : Tabexpr W := by
  obtain ⟨ps, ⟨g', t', cs, fuel, p, q, hg', ht', hvar, hd, _, _⟩, _⟩ := h
  obtain rfl := Option.some.inj (gexpr.symm.trans hg')
  obtain rfl : t' = 169 := Option.some.inj (ht'.symm.trans (by kernel_rfl))
  obtain ⟨xs, m, _, hx, hl, hxl, hf⟩ := DataW.trod_array Tryz.underlying169 hd
  have hc : Tryz.prog.cellsOf 169 = 17 * 6 := by kernel_rfl
  have hc6 : Tryz.prog.cellsOf 153 = 6 := by kernel_rfl
  rw [hc] at hl
  rw [hc6] at hf
  have hxs : xs.map (·.1) = exprRows.map ShD := (DataW.agg.inj (congrArg Prod.fst hx)).symm
  unfold Tabexpr
  rw [hvar]
  have hcs : cs.toList = exprAll := flat_of exprRows cs.toList hl (fun i r hi => by
    have hi17 : i < 17 := (List.getElem?_eq_some_iff.1 hi).1
    have h1 := hf i hi17
    have h2 : (xs.map (·.1))[i]? = some (ShD r) := by rw [hxs, List.getElem?_map, hi]; rfl
    rw [List.getElem?_map] at h2
    obtain ⟨y, hy, hye⟩ := Option.map_eq_some_iff.1 h2
    rw [hy] at h1
    exact shape_of h1 hye)
  rw [← hcs]
theorem tstmt {W : World} (h : laidMetH Tryz.prog [("evenhand/tree.stmts", Rows.laid_evenhand_tree_stmts)] W) : Tabstmt W := by
  obtain ⟨ps, ⟨g', t', cs, fuel, p, q, hg', ht', hvar, hd, _, _⟩, _⟩ := h
  obtain rfl := Option.some.inj (gstmt.symm.trans hg')
  obtain rfl : t' = 154 := Option.some.inj (ht'.symm.trans (by kernel_rfl))
  obtain ⟨xs, m, _, hx, hl, hxl, hf⟩ := DataW.trod_array Tryz.underlying154 hd
  have hc : Tryz.prog.cellsOf 154 = 10 * 6 := by kernel_rfl
  have hc6 : Tryz.prog.cellsOf 153 = 6 := by kernel_rfl
  rw [hc] at hl
  rw [hc6] at hf
  have hxs : xs.map (·.1) = stmtRows.map ShD := (DataW.agg.inj (congrArg Prod.fst hx)).symm
  unfold Tabstmt
  rw [hvar]
  have hcs : cs.toList = stmtAll := flat_of stmtRows cs.toList hl (fun i r hi => by
    have hi10 : i < 10 := (List.getElem?_eq_some_iff.1 hi).1
    have h1 := hf i hi10
    have h2 : (xs.map (·.1))[i]? = some (ShD r) := by rw [hxs, List.getElem?_map, hi]; rfl
    rw [List.getElem?_map] at h2
    obtain ⟨y, hy, hye⟩ := Option.map_eq_some_iff.1 h2
    rw [hy] at h1
    exact shape_of h1 hye)
  rw [← hcs]
set_option maxRecDepth 100000 in
theorem sort_of {H : Type} {enc : TypeId × Value → H} {W : World} {base : Nat} {sp : Nat → Bool} {held : Bool} {fuel : Nat} {cs : List Value} {r : List UInt8 × Int × Int × Int × Int} {y : DataW H × List MemPlace} (h : DataW.trod enc Tryz.prog W base sp held fuel 120 cs = some y) (hy : y.1 = .agg [.lit (.string r.1), .lit (.int .i64 r.2.1), .lit (.int .i64 r.2.2.1), .lit (.int .i64 r.2.2.2.1), .lit (.int .i64 r.2.2.2.2)]) : cs = C.sortCells r := by
  obtain ⟨xs, m, _, rfl, hl, hxl, hf⟩ := DataW.trod_struct Tryz.underlying120 h
  have hc5 : Tryz.prog.cellsOf 120 = 5 := by kernel_rfl
  have hcs : Tryz.prog.cellsOf 9 = 1 := by kernel_rfl
  have hci : Tryz.prog.cellsOf 3 = 1 := by kernel_rfl
  have hcl : Tryz.prog.cellsOf 2 = 1 := by kernel_rfl
  rw [hc5] at hl
  match cs, hl with
  | [v0, v1, v2, v3, v4], _ =>
    match xs, hxl with
    | [y0, y1, y2, y3, y4], _ =>
      have h0 := hf 0 _ rfl
      have h1 := hf 1 _ rfl
      have h2 := hf 2 _ rfl
      have h3 := hf 3 _ rfl
      have h4 := hf 4 _ rfl
      simp [hcs, hci, hcl] at h0 h1 h2 h3 h4
      obtain ⟨s, e0, rfl, _⟩ := DataW.trod_string Tryz.underlying9 h0
      obtain ⟨n1, e1, rfl, _⟩ := DataW.trod_int Tryz.underlying3 h1
      obtain ⟨n2, e2, rfl, _⟩ := DataW.trod_int Tryz.underlying3 h2
      obtain ⟨n3, e3, rfl, _⟩ := DataW.trod_int Tryz.underlying2 h3
      obtain ⟨n4, e4, rfl, _⟩ := DataW.trod_int Tryz.underlying3 h4
      simp only [List.map_cons, List.map_nil, DataW.agg.injEq, List.cons.injEq, DataW.lit.injEq, Lit.string.injEq, Lit.int.injEq, true_and, and_true] at hy
      obtain ⟨q0, q1, q2, q3, q4⟩ := hy
      have z0 : s = ⟨r.1.toArray⟩ := by rw [← q0]
      cases e0; cases e1; cases e2; cases e3; cases e4
      unfold C.sortCells
      rw [← q1, ← q2, ← q3, ← q4, z0]
set_option maxRecDepth 100000 in
theorem flat5_of : ∀ (rs : List (List UInt8 × Int × Int × Int × Int)) (cs : List Value), cs.length = rs.length * 5 → (∀ (i : Nat) (r : List UInt8 × Int × Int × Int × Int), rs[i]? = some r → (cs.drop (i * 5)).take 5 = C.sortCells r) → cs = rs.flatMap C.sortCells := by
  intro rs
  induction rs with
  | nil => intro cs h _; simpa using h
  | cons r rs ih =>
    intro cs h hr
    have h0 := hr 0 r rfl
    have h1 := ih (cs.drop 5) (by simp at h ⊢; omega) (fun i r' hi => by
      have := hr (i + 1) r' hi
      rw [List.drop_drop]
      rw [show 5 + i * 5 = (i + 1) * 5 by omega]; exact this)
    rw [List.flatMap_cons, ← h1, ← h0]
    simp
set_option maxRecDepth 100000 in
theorem srt {W : World} (h : laidMetH Tryz.prog [("evenhand/code.sorts", Rows.laid_evenhand_code_sorts)] W) : C.Srt W := by
  obtain ⟨ps, ⟨g', t', cs, fuel, p, q, hg', ht', hvar, hd, _, _⟩, _⟩ := h
  obtain rfl := Option.some.inj (C.gSrt.symm.trans hg')
  obtain rfl : t' = 149 := Option.some.inj (ht'.symm.trans (by kernel_rfl))
  obtain ⟨xs, m, _, hx, hl, hxl, hf⟩ := DataW.trod_array Tryz.underlying149 hd
  have hc : Tryz.prog.cellsOf 149 = 26 * 5 := by kernel_rfl
  have hc5 : Tryz.prog.cellsOf 120 = 5 := by kernel_rfl
  rw [hc] at hl
  rw [hc5] at hf
  have hxs : xs.map (·.1) = C.sortRows.map (fun r => (.agg [.lit (.string r.1), .lit (.int .i64 r.2.1), .lit (.int .i64 r.2.2.1), .lit (.int .i64 r.2.2.2.1), .lit (.int .i64 r.2.2.2.2)] : DataW Unit)) := by
    have := congrArg Prod.fst hx
    exact (DataW.agg.inj this).symm
  unfold C.Srt
  rw [hvar]
  have hcs : cs.toList = C.sortAll := flat5_of C.sortRows cs.toList hl (fun i r hi => by
    have hi26 : i < 26 := (List.getElem?_eq_some_iff.1 hi).1
    have h1 := hf i hi26
    have h2 : (xs.map (·.1))[i]? = some (.agg [.lit (.string r.1), .lit (.int .i64 r.2.1), .lit (.int .i64 r.2.2.1), .lit (.int .i64 r.2.2.2.1), .lit (.int .i64 r.2.2.2.2)]) := by rw [hxs, List.getElem?_map, hi]; rfl
    rw [List.getElem?_map] at h2
    obtain ⟨y, hy, hye⟩ := Option.map_eq_some_iff.1 h2
    rw [hy] at h1
    exact sort_of h1 hye)
  rw [← hcs]
theorem gSmp : Tryz.prog.globalNamed "evenhand/compile.simple" = some 0 := by kernel_rfl
set_option maxRecDepth 100000 in
theorem smp {W : World} (h : laidMetH Tryz.prog [("evenhand/compile.simple", Rows.laid_evenhand_compile_simple)] W) : ∃ mb mn, SmpAt W mb mn := by
  obtain ⟨ps, ⟨g', t', cs, fuel, p, q, hg', ht', hvar, hd, _, _⟩, _⟩ := h
  obtain rfl := Option.some.inj (gSmp.symm.trans hg')
  obtain rfl : t' = 104 := Option.some.inj (ht'.symm.trans (by kernel_rfl))
  rcases Go.WideElems.open_map Tryz.underlying104 hd with ⟨hcs, hx⟩ | ⟨b, es, clock, n, rfl, hcs, hb, _, F, hx⟩
  · have := congrArg Prod.fst hx
    cases this
  · have hD := congrArg Prod.fst hx
    have hown := World.ownsMap_of_fit (R := plainElem Tryz.prog 3) hb F (fun x hx z hz => Go.elemAt_plainElem_int Tryz.underlying3 hz)
    refine ⟨b, es.size, ?_, ?_⟩
    · have := World.var?_cell gSmp hvar 0
      rw [this, ← Array.getElem?_toList, hcs]; rfl
    · have e : simpleD = (.map ((es.toList.map (Go.WideElems.rg Tryz.prog 3 _)).foldr DataW.insert []) : DataW Unit) := hD
      rw [e]; exact hown
theorem tabs {W : World} (h : laidMetH Tryz.prog Rows.compileTellsUptoRow.laid W) : ∃ mb mn, TabAll W mb mn := by
  have h1 : laidMetH Tryz.prog [("internal/strconv.uint64pow10", Rows.laid_internal_strconv_uint64pow10)] W := h.filter (fun x => x.1 == "internal/strconv.uint64pow10")
  have h2 : laidMetH Tryz.prog [("evenhand/tree.exprs", Rows.laid_evenhand_tree_exprs)] W := h.filter (fun x => x.1 == "evenhand/tree.exprs")
  have h3 : laidMetH Tryz.prog [("evenhand/tree.stmts", Rows.laid_evenhand_tree_stmts)] W := h.filter (fun x => x.1 == "evenhand/tree.stmts")
  have h4 : laidMetH Tryz.prog [("evenhand/code.sorts", Rows.laid_evenhand_code_sorts)] W := h.filter (fun x => x.1 == "evenhand/code.sorts")
  have h5 : laidMetH Tryz.prog [("evenhand/compile.simple", Rows.laid_evenhand_compile_simple)] W := h.filter (fun x => x.1 == "evenhand/compile.simple")
  obtain ⟨mb, mn, h6⟩ := smp h5
  exact ⟨mb, mn, ⟨texpr h2, tstmt h3⟩, ⟨Lib.tabIs_of_head (rest := []) (t := 172) (e := 164) (n := 20) C.gPow (by kernel_rfl) (by kernel_rfl) (by kernel_rfl) (by kernel_rfl) (by kernel_rfl) h1, srt h4⟩, h6⟩
set_option maxRecDepth 100000 in
theorem contract (H : Type) (enc : TypeId × Value → H) (W : World) (base : Nat) (args : Array Value) (ds gs : List (DataW H)) (before : List MemPlace)
    (hval : ∀ (j : Nat) t v, Tryz.f3.params[j]? = some t → args[j]? = some v → Value.okWide Tryz.prog W .any base t v)
    (hW : DataW.Whole enc Tryz.prog Tryz.f3.params.toList Rows.compileTellsSpec.vars false W args.toList ds gs before) (hL : laidMetH Tryz.prog Rows.compileTellsUptoRow.laid W)
    (hsz0 : (DataW.weightsEach Tryz.prog (Tryz.f3.params.toList ++ Rows.compileTellsSpec.plain.varTypes Tryz.prog) (ds ++ gs)).all (· ≤ reachBytes) = true) (hbk : Rows.uptoSmall H (ds ++ gs) = true) :
    Calls Tryz.prog 3 args W fun e W' => ∃ v, e = .returned v ∧ Rows.compileTellsSpec.post enc Tryz.prog Tryz.f3 false true false false W args v W' := by
  have hW' := hW
  obtain ⟨p, q, hA0, hV, rfl, hfz, hnd⟩ := hW
  have hA : DataW.TrodAll enc Tryz.prog W 0 (fun _ => true) true Tryz.f3.params.toList args.toList ds p := hA0
  have hsz := hsz0
  rw [Tryz.params3] at hA hval hsz
  obtain ⟨v0, vs0, d0, ds0, p0, q0, hargs, rfl, rfl, h0, r0⟩ := trodAll_cons hA
  obtain ⟨rfl, rfl, rfl⟩ := trodAll_nil r0
  obtain rfl : args = #[v0] := by cases args; simp_all
  obtain ⟨rfl, rfl⟩ := trodVars_none hV
  have z0 : ∀ m ∈ DataW.weights Tryz.prog 25 d0, m ≤ reachBytes := fun m hm => by have := List.all_eq_true.1 hsz _ (DataW.weights_mem_each (j := 0) (t := 25) rfl rfl m hm); simpa using this
  have k0 := h0
  have lt0 : ∀ x ∈ p0, x.block < W.heap.size := by obtain ⟨m, hm⟩ := k0; exact DataW.trod_lt m _ _ _ hm
  obtain ⟨pa0, pn0, pk0, qa0, qn0, qk0, P0, rfl, o0⟩ := open_prog (hval 0 25 v0 rfl rfl) h0 z0
  simp only [List.append_nil] at hW'
  refine (tells_walk pa0 pn0 pk0 qa0 qn0 qk0 P0  W o0 (bulk_prog (hval 0 25 _ rfl rfl) k0 o0.1) (num_prog (hval 0 25 _ rfl rfl) k0 o0.1) hbk (tabs hL)).mono fun e W' ⟨he, bel⟩ => ?_
  subst he
  exact ⟨_, rfl, _, _, _, [], _, [], hW', trodAll_mk1 (shut_bool Tryz.underlying4 _), (trodAll_cons_mk (Below.trod (by kernel_rfl) (by kernel_rfl) (of_decide_eq_true (by kernel_rfl)) k0 bel lt0) trodAll_mk0), rfl, bel.frame _, fun h => by cases h⟩
noncomputable def laidWorld (os : Os) : World :=
  { World.holding Tryz.prog os ⟨#[], #[], []⟩ with heap := (((((((((World.holding Tryz.prog os ⟨#[], #[], []⟩).heap.modify 6 fun
      | .cells _ t frozen => .cells #[.int .u8 0, .int .u8 1, .int .u8 28, .int .u8 2, .int .u8 29, .int .u8 14, .int .u8 24, .int .u8 3, .int .u8 30, .int .u8 22, .int .u8 20, .int .u8 15, .int .u8 25, .int .u8 17, .int .u8 4, .int .u8 8, .int .u8 31, .int .u8 27, .int .u8 13, .int .u8 23, .int .u8 21, .int .u8 19, .int .u8 16, .int .u8 7, .int .u8 26, .int .u8 12, .int .u8 18, .int .u8 6, .int .u8 11, .int .u8 5, .int .u8 10, .int .u8 9] t frozen
      | o => o).modify 7 fun
      | .cells _ t frozen => .cells #[.int .u8 0, .int .u8 1, .int .u8 56, .int .u8 2, .int .u8 57, .int .u8 49, .int .u8 28, .int .u8 3, .int .u8 61, .int .u8 58, .int .u8 42, .int .u8 50, .int .u8 38, .int .u8 29, .int .u8 17, .int .u8 4, .int .u8 62, .int .u8 47, .int .u8 59, .int .u8 36, .int .u8 45, .int .u8 43, .int .u8 51, .int .u8 22, .int .u8 53, .int .u8 39, .int .u8 33, .int .u8 30, .int .u8 24, .int .u8 18, .int .u8 12, .int .u8 5, .int .u8 63, .int .u8 55, .int .u8 48, .int .u8 27, .int .u8 60, .int .u8 41, .int .u8 37, .int .u8 16, .int .u8 46, .int .u8 35, .int .u8 44, .int .u8 21, .int .u8 52, .int .u8 32, .int .u8 23, .int .u8 11, .int .u8 54, .int .u8 26, .int .u8 40, .int .u8 15, .int .u8 34, .int .u8 20, .int .u8 31, .int .u8 10, .int .u8 25, .int .u8 14, .int .u8 19, .int .u8 9, .int .u8 13, .int .u8 8, .int .u8 7, .int .u8 6] t frozen
      | o => o).modify 4 fun
      | .cells _ t frozen => .cells #[.int .u64 1, .int .u64 10, .int .u64 100, .int .u64 1000, .int .u64 10000, .int .u64 100000, .int .u64 1000000, .int .u64 10000000, .int .u64 100000000, .int .u64 1000000000, .int .u64 10000000000, .int .u64 100000000000, .int .u64 1000000000000, .int .u64 10000000000000, .int .u64 100000000000000, .int .u64 1000000000000000, .int .u64 10000000000000000, .int .u64 100000000000000000, .int .u64 1000000000000000000, .int .u64 10000000000000000000] t frozen
      | o => o).modify 3 fun
      | .cells _ t frozen => .cells #[.bool false, .int .i64 0, .int .i64 0, .int .i64 0, .bool false, .bool false, .bool false, .int .i64 0, .int .i64 9223372036854775807, .int .i64 0, .bool false, .bool false, .bool true, .int .i64 0, .int .i64 0, .int .i64 0, .bool false, .bool false, .bool false, .int .i64 0, .int .i64 0, .int .i64 0, .bool false, .bool false, .bool true, .int .i64 0, .int .i64 0, .int .i64 1, .bool false, .bool false, .bool true, .int .i64 0, .int .i64 0, .int .i64 (-8), .bool false, .bool false, .bool false, .int .i64 0, .int .i64 0, .int .i64 1, .bool false, .bool false, .bool false, .int .i64 0, .int .i64 0, .int .i64 1, .bool false, .bool false, .bool false, .int .i64 0, .int .i64 0, .int .i64 2, .bool false, .bool false, .bool false, .int .i64 0, .int .i64 0, .int .i64 2, .bool false, .bool false, .bool false, .int .i64 0, .int .i64 0, .int .i64 2, .bool false, .bool false, .bool false, .int .i64 0, .int .i64 0, .int .i64 2, .bool false, .bool false, .bool false, .int .i64 0, .int .i64 0, .int .i64 2, .bool false, .bool false, .bool false, .int .i64 0, .int .i64 0, .int .i64 2, .bool false, .bool false, .bool false, .int .i64 0, .int .i64 0, .int .i64 2, .bool false, .bool false, .bool false, .int .i64 0, .int .i64 0, .int .i64 2, .bool false, .bool false, .bool false, .int .i64 0, .int .i64 0, .int .i64 2, .bool false, .bool false] t frozen
      | o => o).modify 2 fun
      | .cells _ t frozen => .cells #[.bool false, .int .i64 0, .int .i64 0, .int .i64 0, .bool false, .bool false, .bool true, .int .i64 0, .int .i64 0, .int .i64 1, .bool false, .bool false, .bool true, .int .i64 0, .int .i64 0, .int .i64 2, .bool false, .bool false, .bool true, .int .i64 1, .int .i64 4096, .int .i64 0, .bool false, .bool false, .bool true, .int .i64 0, .int .i64 0, .int .i64 0, .bool false, .bool false, .bool false, .int .i64 0, .int .i64 0, .int .i64 1, .bool false, .bool false, .bool false, .int .i64 0, .int .i64 0, .int .i64 1, .bool false, .bool false, .bool false, .int .i64 0, .int .i64 0, .int .i64 1, .bool true, .bool true, .bool false, .int .i64 0, .int .i64 0, .int .i64 1, .bool true, .bool false, .bool false, .int .i64 0, .int .i64 0, .int .i64 1, .bool false, .bool false] t frozen
      | o => o).modify 1 fun
      | .cells _ t frozen => .cells #[.string ⟨#[63]⟩, .int .i64 0, .int .i64 0, .int .i64 (-1), .int .i64 0, .string ⟨#[112, 117, 115, 104]⟩, .int .i64 0, .int .i64 1, .int .i64 0, .int .i64 2, .string ⟨#[108, 111, 97, 100]⟩, .int .i64 0, .int .i64 1, .int .i64 0, .int .i64 1, .string ⟨#[115, 116, 111, 114, 101]⟩, .int .i64 1, .int .i64 0, .int .i64 0, .int .i64 1, .string ⟨#[110, 101, 103]⟩, .int .i64 1, .int .i64 1, .int .i64 0, .int .i64 0, .string ⟨#[110, 111, 116]⟩, .int .i64 1, .int .i64 1, .int .i64 0, .int .i64 0, .string ⟨#[97, 100, 100]⟩, .int .i64 2, .int .i64 1, .int .i64 0, .int .i64 0, .string ⟨#[115, 117, 98]⟩, .int .i64 2, .int .i64 1, .int .i64 0, .int .i64 0, .string ⟨#[109, 117, 108]⟩, .int .i64 2, .int .i64 1, .int .i64 2, .int .i64 0, .string ⟨#[100, 105, 118]⟩, .int .i64 2, .int .i64 1, .int .i64 7, .int .i64 0, .string ⟨#[109, 111, 100]⟩, .int .i64 2, .int .i64 1, .int .i64 7, .int .i64 0, .string ⟨#[108, 101, 115, 115]⟩, .int .i64 2, .int .i64 1, .int .i64 0, .int .i64 0, .string ⟨#[115, 97, 109, 101]⟩, .int .i64 2, .int .i64 1, .int .i64 0, .int .i64 0, .string ⟨#[97, 110, 100]⟩, .int .i64 2, .int .i64 1, .int .i64 0, .int .i64 0, .string ⟨#[111, 114]⟩, .int .i64 2, .int .i64 1, .int .i64 0, .int .i64 0, .string ⟨#[106, 117, 109, 112]⟩, .int .i64 0, .int .i64 0, .int .i64 0, .int .i64 1, .string ⟨#[122, 101, 114, 111]⟩, .int .i64 1, .int .i64 0, .int .i64 0, .int .i64 1, .string ⟨#[99, 97, 108, 108]⟩, .int .i64 0, .int .i64 1, .int .i64 9, .int .i64 1, .string ⟨#[114, 101, 116, 117, 114, 110]⟩, .int .i64 1, .int .i64 0, .int .i64 1, .int .i64 0, .string ⟨#[112, 114, 105, 110, 116]⟩, .int .i64 1, .int .i64 0, .int .i64 4, .int .i64 0, .string ⟨#[107, 101, 101, 112]⟩, .int .i64 1, .int .i64 0, .int .i64 4, .int .i64 0, .string ⟨#[105, 110, 112, 117, 116]⟩, .int .i64 0, .int .i64 0, .int .i64 3, .int .i64 3, .string ⟨#[97, 114, 114, 97, 121]⟩, .int .i64 0, .int .i64 0, .int .i64 19, .int .i64 3, .string ⟨#[103, 101, 116]⟩, .int .i64 1, .int .i64 1, .int .i64 2, .int .i64 1, .string ⟨#[115, 101, 116]⟩, .int .i64 2, .int .i64 0, .int .i64 2, .int .i64 1, .string ⟨#[99, 108, 111, 99, 107]⟩, .int .i64 0, .int .i64 1, .int .i64 1, .int .i64 0] t frozen
      | o => o).modify 0 fun
      | .cells _ t frozen => .cells #[.map (some (World.holding Tryz.prog os ⟨#[], #[], []⟩).heap.size)] t frozen
      | o => o).push (.map #[⟨.int .i64 5, .int .i64 19, 0⟩, ⟨.int .i64 6, .int .i64 20, 1⟩, ⟨.int .i64 9, .int .i64 18, 2⟩] 3)) }
theorem laid_met (os : Os) : laidMet Tryz.prog Rows.compileTellsUptoRow.laid ((laidWorld os).forCall (fun _ _ => 0) ⟨#[], #[.agg #[.slice none 0 0, .slice none 0 0]], []⟩).memory :=
  laidMet_of_run' 8 (by kernel_rfl) (by kernel_rfl)
theorem reads (os : Os) {H : Type} (enc : TypeId × Value → H) : ∃ places, DataW.whole enc Tryz.prog ((laidWorld os).forCall (fun _ _ => 0) ⟨#[], #[.agg #[.slice none 0 0, .slice none 0 0]], []⟩).memory Tryz.f3.params.toList Rows.compileTellsSpec.vars false #[Value.agg #[.slice none 0 0, .slice none 0 0]].toList 8 = some ([.agg [.nil, .nil]], [], places) :=
  ⟨[], by kernel_rfl⟩
set_option maxRecDepth 100000 in
theorem lifted (os : Os) (started : os.Started) (H : Type) (enc : TypeId × Value → H) (F : Stop.Interp) :
    ReturnsInHanded {} Tryz.checked os 3 .any ((Rows.OpenSpec.upto Rows.compileTellsSpec).preRow enc Tryz.prog Tryz.f3 Rows.compileTellsUptoRow.domain false Rows.compileTellsUptoRow.laid) (((Rows.OpenSpec.upto Rows.compileTellsSpec).at F).post enc Tryz.prog Tryz.f3 false true false false) := by
  obtain ⟨places, hx⟩ := reads os enc
  refine returnsInHanded_of_row (C := Tryz.checked) (s := Rows.OpenSpec.upto Rows.compileTellsSpec) own started (by kernel_rfl) Tryz.func3
    (witness_row_at (enc := enc) (C := Tryz.checked) false (laidWorld os) #[.agg #[.slice none 0 0, .slice none 0 0]] rfl (by kernel_rfl) (by kernel_rfl) (by kernel_rfl)
      (OpenSpec.preRow_of_cond 8 hx (by kernel_rfl) (fun k hk => by cases hk; kernel_rfl) (by kernel_rfl) (laid_met os))) ?_
  intro W base args ds gs before hval hW _ hk hsz hL _ _
  exact contract H enc W base args ds gs before hval hW hL hsz (hk _ rfl)
theorem said : Rows.CompileTellsUptoSaid :=
  OpenClaim.holds_of_cond 3 Tryz.f3 rfl rfl rfl rfl rfl rfl rfl ⟨rfl, rfl, rfl, rfl, rfl⟩ rfl rfl rfl rfl rfl (by kernel_rfl) Tryz.func3 (by kernel_rfl)
    (of_decide_eq_true (by kernel_rfl)) (by unfold Func.isWrapper; first | (rw [if_pos (by decide +kernel)]; kernel_rfl) | (rw [if_neg (by decide +kernel)]; exact ⟨rfl, rfl⟩))
    (fun os started H enc _ F => by rw [OpenClaim.pre_eq_preRow]; exact lifted os started H enc F)
theorem plain (f : FuncId) (fn : Func) (hf : Tryz.pinned.checked.prog.funcNamed "evenhand/evenhandlaw09.CompileTells" = some f) (hfn : Tryz.pinned.checked.prog.funcs[f]? = some fn) :
    false = Tryz.pinned.checked.prog.looks [] ∧ ∀ (j : Nat) t, fn.params[j]? = some t → Tryz.pinned.checked.prog.wantsStandIn t = false := by
  obtain rfl : f = 3 := Option.some.inj ((show Tryz.prog.funcNamed "evenhand/evenhandlaw09.CompileTells" = some 3 by kernel_rfl).symm.trans hf) |>.symm
  obtain rfl : fn = Tryz.f3 := (Option.some.inj (Tryz.func3.symm.trans hfn)).symm
  refine ⟨by kernel_rfl, fun j t ht => ?_⟩
  rw [Tryz.params3] at ht
  have ht' := Array.mem_of_getElem? ht
  have hm : t = 25 := by simpa using ht'
  rcases hm with rfl
  all_goals first | exact (show Tryz.prog.wantsStandIn _ = false by kernel_rfl)
theorem card : Rows.CompileTellsUptoCardSaid :=
  Claim7.holds_tied_plain_at .later [] _ _ _ _ said (fun _ h => by cases h) (by kernel_rfl) (fun _ h => by cases h) compileTellsUpto_row_tie rfl ⟨rfl, rfl⟩ (by kernel_rfl) rfl plain (by kernel_rfl)
end Go.Proofs.YthjjcmmonjajhaaGreatDoor.compileTellsUpto
namespace Go.Proofs.YthjjcmmonjajhaaGreatDoor
theorem compileTellsUpto_holds : Rows.CompileTellsUptoCardSaid := compileTellsUpto.card
#print axioms compileTellsUpto_holds
end Go.Proofs.YthjjcmmonjajhaaGreatDoor
