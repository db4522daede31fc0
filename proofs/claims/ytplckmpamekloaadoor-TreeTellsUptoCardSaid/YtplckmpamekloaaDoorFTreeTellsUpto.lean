/- TreeTells: for every input of the bulk that the row names the law returns true; its row and its card. Conditions: the row's own (what package-level variables hold when the call begins; the bulk). -/
import Derived.Test.YtplckmpamekloaaDoorCards
import Derived.Test.YtplckmpamekloaaDoorTie
import Derived.Test.YtplckmpamekloaaDoorTellsTop
import Derived.WalkKit
import Derived.ProofKit
import Derived.OpenShut
import Derived.ShutString
import Derived.Deep.DeepHandedRow
import Derived.Lib.LaidTab
import Derived.SizedLaws
namespace Go.Proofs.YtplckmpamekloaaDoor.treeTellsUpto
open Go.ChangeShapes Go.WideShapes Go.ChangeAt Go.RowKit
open Go.ChangeMaps (open_string shut_string)
set_option linter.unusedVariables false
theorem own : ownKnob Tryd.prog.godebug = none := by kernel_rfl
abbrev ShD (r : Shp) : DataW Unit := .agg [.lit (.bool r.1), .lit (.int .i64 r.2.1), .lit (.int .i64 r.2.2.1), .lit (.int .i64 r.2.2.2.1), .lit (.bool r.2.2.2.2.1), .lit (.bool r.2.2.2.2.2)]
theorem shape_of {enc : TypeId × Value → Unit} {W : World} {base : Nat} {sp : Nat → Bool} {held : Bool} {fuel : Nat} {cs : List Value} {r : Shp} {y : DataW Unit × List MemPlace} (h : DataW.trod enc Tryd.prog W base sp held fuel 92 cs = some y) (hy : y.1 = ShD r) : cs = shapeCells r := by
  obtain ⟨xs, m, _, rfl, hl, hxl, hf⟩ := DataW.trod_struct Tryd.underlying92 h
  have hc6 : Tryd.prog.cellsOf 92 = 6 := by kernel_rfl
  have hcb : Tryd.prog.cellsOf 4 = 1 := by kernel_rfl
  have hci : Tryd.prog.cellsOf 3 = 1 := by kernel_rfl
  have hcl : Tryd.prog.cellsOf 2 = 1 := by kernel_rfl
  rw [hc6] at hl
  match cs, hl with
  | [v0, v1, v2, v3, v4, v5], _ =>
    match xs, hxl with
    | [y0, y1, y2, y3, y4, y5], _ =>
      have h0 := hf 0 _ rfl
      have h1 := hf 1 _ rfl
      have h2 := hf 2 _ rfl
      have h3 := hf 3 _ rfl
      have h4 := hf 4 _ rfl
      have h5 := hf 5 _ rfl
      simp [hcb, hci, hcl] at h0 h1 h2 h3 h4 h5
      obtain ⟨n0, e0, rfl⟩ := DataW.trod_bool Tryd.underlying4 h0
      obtain ⟨n1, e1, rfl, _⟩ := DataW.trod_int Tryd.underlying2 h1
      obtain ⟨n2, e2, rfl, _⟩ := DataW.trod_int Tryd.underlying2 h2
      obtain ⟨n3, e3, rfl, _⟩ := DataW.trod_int Tryd.underlying3 h3
      obtain ⟨n4, e4, rfl⟩ := DataW.trod_bool Tryd.underlying4 h4
      obtain ⟨n5, e5, rfl⟩ := DataW.trod_bool Tryd.underlying4 h5
      simp only [ShD, List.map_cons, List.map_nil, DataW.agg.injEq, List.cons.injEq, DataW.lit.injEq, Lit.bool.injEq, Lit.int.injEq, true_and, and_true] at hy
      obtain ⟨q0, q1, q2, q3, q4, q5⟩ := hy
      cases e0; cases e1; cases e2; cases e3; cases e4; cases e5
      unfold shapeCells
      rw [← q0, ← q1, ← q2, ← q3, ← q4, ← q5]
theorem flat_of : ∀ (rs : List Shp) (cs : List Value), cs.length = rs.length * 6 → (∀ (i : Nat) (r : Shp), rs[i]? = some r → (cs.drop (i * 6)).take 6 = shapeCells r) → cs = rs.flatMap shapeCells := by
  intro rs
  induction rs with
  | nil => intro cs h _; simpa using h
  | cons r rs ih =>
    intro cs h hr
    have h0 := hr 0 r rfl
    have h1 := ih (cs.drop 6) (by simp at h ⊢; omega) (fun i r' hi => by
      have := hr (i + 1) r' hi
      rw [List.drop_drop]
      rw [show 6 + i * 6 = (i + 1) * 6 by omega]; exact this)
    rw [List.flatMap_cons, ← h1, ← h0]
    simp
theorem texpr {W : World} (h : laidMetH Tryd.prog [("evenhand/tree.exprs", Rows.laid_evenhand_tree_exprs)] W) : Tabexpr W := by
  obtain ⟨ps, ⟨g', t', cs, fuel, p, q, hg', ht', hvar, hd, _, _⟩, _⟩ := h
  obtain rfl := Option.some.inj (gexpr.symm.trans hg')
  obtain rfl : t' = 95 := Option.some.inj (ht'.symm.trans (by kernel_rfl))
  obtain ⟨xs, m, _, hx, hl, hxl, hf⟩ := DataW.trod_array Tryd.underlying95 hd
  have hc : Tryd.prog.cellsOf 95 = 17 * 6 := by kernel_rfl
  have hc6 : Tryd.prog.cellsOf 92 = 6 := by kernel_rfl
  rw [hc] at hl
  rw [hc6] at hf
  have hxs : xs.map (·.1) = exprRows.map ShD := (DataW.agg.inj (congrArg Prod.fst hx)).symm
  unfold Tabexpr
  rw [hvar]
  have hcs : cs.toList = exprAll := flat_of exprRows cs.toList hl (fun i r hi => by
    have hi17 : i < 17 := (List.getElem?_eq_some_iff.1 hi).1
    have h1 := hf i hi17
    have h2 : (xs.map (·.1))[i]? = some (ShD r) := by rw [hxs, List.getElem?_map, hi]; rfl
    rw [List.getElem?_map] at h2
    obtain ⟨y, hy, hye⟩ := Option.map_eq_some_iff.1 h2
    rw [hy] at h1
    exact shape_of h1 hye)
  rw [← hcs]
theorem tstmt {W : World} (h : laidMetH Tryd.prog [("evenhand/tree.stmts", Rows.laid_evenhand_tree_stmts)] W) : Tabstmt W := by
  obtain ⟨ps, ⟨g', t', cs, fuel, p, q, hg', ht', hvar, hd, _, _⟩, _⟩ := h
  obtain rfl := Option.some.inj (gstmt.symm.trans hg')
  obtain rfl : t' = 93 := Option.some.inj (ht'.symm.trans (by kernel_rfl))
  obtain ⟨xs, m, _, hx, hl, hxl, hf⟩ := DataW.trod_array Tryd.underlying93 hd
  have hc : Tryd.prog.cellsOf 93 = 10 * 6 := by kernel_rfl
  have hc6 : Tryd.prog.cellsOf 92 = 6 := by kernel_rfl
  rw [hc] at hl
  rw [hc6] at hf
  have hxs : xs.map (·.1) = stmtRows.map ShD := (DataW.agg.inj (congrArg Prod.fst hx)).symm
  unfold Tabstmt
  rw [hvar]
  have hcs : cs.toList = stmtAll := flat_of stmtRows cs.toList hl (fun i r hi => by
    have hi10 : i < 10 := (List.getElem?_eq_some_iff.1 hi).1
    have h1 := hf i hi10
    have h2 : (xs.map (·.1))[i]? = some (ShD r) := by rw [hxs, List.getElem?_map, hi]; rfl
    rw [List.getElem?_map] at h2
    obtain ⟨y, hy, hye⟩ := Option.map_eq_some_iff.1 h2
    rw [hy] at h1
    exact shape_of h1 hye)
  rw [← hcs]
theorem tab {W : World} (h : laidMetH Tryd.prog Rows.treeTellsUptoRow.laid W) : Tab W := by
  have h2 : laidMetH Tryd.prog [("evenhand/tree.exprs", Rows.laid_evenhand_tree_exprs)] W := h.filter (fun x => x.1 == "evenhand/tree.exprs")
  have h3 : laidMetH Tryd.prog [("evenhand/tree.stmts", Rows.laid_evenhand_tree_stmts)] W := h.filter (fun x => x.1 == "evenhand/tree.stmts")
  exact ⟨texpr h2, tstmt h3⟩
set_option maxRecDepth 100000 in
theorem contract (H : Type) (enc : TypeId × Value → H) (W : World) (base : Nat) (args : Array Value) (ds gs : List (DataW H)) (before : List MemPlace)
    (hval : ∀ (j : Nat) t v, Tryd.f3.params[j]? = some t → args[j]? = some v → Value.okWide Tryd.prog W .any base t v)
    (hW : DataW.Whole enc Tryd.prog Tryd.f3.params.toList Rows.treeTellsSpec.vars false W args.toList ds gs before) (hL : laidMetH Tryd.prog Rows.treeTellsUptoRow.laid W)
    (hsz0 : (DataW.weightsEach Tryd.prog (Tryd.f3.params.toList ++ Rows.treeTellsSpec.plain.varTypes Tryd.prog) (ds ++ gs)).all (· ≤ reachBytes) = true) (hbk : Rows.uptoSmall H (ds ++ gs) = true) :
    Calls Tryd.prog 3 args W fun e W' => ∃ v, e = .returned v ∧ Rows.treeTellsSpec.post enc Tryd.prog Tryd.f3 false true false false W args v W' := by
  have hW' := hW
  obtain ⟨p, q, hA0, hV, rfl, hfz, hnd⟩ := hW
  have hA : DataW.TrodAll enc Tryd.prog W 0 (fun _ => true) true Tryd.f3.params.toList args.toList ds p := hA0
  have hsz := hsz0
  rw [Tryd.params3] at hA hval hsz
  obtain ⟨v0, vs0, d0, ds0, p0, q0, hargs, rfl, rfl, h0, r0⟩ := trodAll_cons hA
  obtain ⟨v1, vs1, d1, ds1, p1, q1, rfl, rfl, rfl, h1, r1⟩ := trodAll_cons r0
  obtain ⟨v2, vs2, d2, ds2, p2, q2, rfl, rfl, rfl, h2, r2⟩ := trodAll_cons r1
  obtain ⟨rfl, rfl, rfl⟩ := trodAll_nil r2
  obtain rfl : args = #[v0, v1, v2] := by cases args; simp_all
  obtain ⟨rfl, rfl⟩ := trodVars_none hV
  have z0 : ∀ m ∈ DataW.weights Tryd.prog 25 d0, m ≤ reachBytes := fun m hm => by have := List.all_eq_true.1 hsz _ (DataW.weights_mem_each (j := 0) (t := 25) rfl rfl m hm); simpa using this
  have k0 := h0
  have lt0 : ∀ x ∈ p0, x.block < W.heap.size := by obtain ⟨m, hm⟩ := k0; exact DataW.trod_lt m _ _ _ hm
  obtain ⟨pa0, pn0, pk0, qa0, qn0, qk0, P0, rfl, o0⟩ := open_prog (hval 0 25 v0 rfl rfl) h0 z0
  have z1 : ∀ m ∈ DataW.weights Tryd.prog 25 d1, m ≤ reachBytes := fun m hm => by have := List.all_eq_true.1 hsz _ (DataW.weights_mem_each (j := 1) (t := 25) rfl rfl m hm); simpa using this
  have k1 := h1
  have lt1 : ∀ x ∈ p1, x.block < W.heap.size := by obtain ⟨m, hm⟩ := k1; exact DataW.trod_lt m _ _ _ hm
  obtain ⟨pa1, pn1, pk1, qa1, qn1, qk1, P1, rfl, o1⟩ := open_prog (hval 1 25 v1 rfl rfl) h1 z1
  obtain ⟨a2, rfl, rfl, rfl, y2⟩ := open_string Tryd.underlying9 (hval 2 9 v2 rfl rfl) h2
  have w2 : a2.size ≤ 140737488351232 := by
    have z := sized_string hsz (j := 2) (t := 9) rfl rfl
    rw [Array.length_toList] at z
    exact z
  simp only [List.append_nil] at hW'
  refine (tells_walk pa0 pn0 pk0 qa0 qn0 qk0 P0 pa1 pn1 pk1 qa1 qn1 qk1 P1 a2 w2 W o0 o1 (bulk_prog (hval 0 25 _ rfl rfl) k0 o0.1) (num_prog (hval 0 25 _ rfl rfl) k0 o0.1) hbk (tab hL)).mono fun e W' ⟨he, bel⟩ => ?_
  subst he
  exact ⟨_, rfl, _, _, _, [], _, [], hW', trodAll_mk1 (shut_bool Tryd.underlying4 _), (trodAll_cons_mk (Below.trod (by kernel_rfl) (by kernel_rfl) (of_decide_eq_true (by kernel_rfl)) k0 bel lt0) (trodAll_cons_mk (Below.trod (by kernel_rfl) (by kernel_rfl) (of_decide_eq_true (by kernel_rfl)) k1 bel lt1) (trodAll_cons_mk (shut_string Tryd.underlying9 y2) trodAll_mk0))), rfl, bel.frame _, fun h => by cases h⟩
noncomputable def laidWorld (os : Os) : World :=
  { World.holding Tryd.prog os ⟨#[], #[], []⟩ with heap := (((World.holding Tryd.prog os ⟨#[], #[], []⟩).heap.modify 1 fun
      | .cells _ t frozen => .cells #[.bool false, .int .i64 0, .int .i64 0, .int .i64 0, .bool false, .bool false, .bool false, .int .i64 0, .int .i64 9223372036854775807, .int .i64 0, .bool false, .bool false, .bool true, .int .i64 0, .int .i64 0, .int .i64 0, .bool false, .bool false, .bool false, .int .i64 0, .int .i64 0, .int .i64 0, .bool false, .bool false, .bool true, .int .i64 0, .int .i64 0, .int .i64 1, .bool false, .bool false, .bool true, .int .i64 0, .int .i64 0, .int .i64 (-8), .bool false, .bool false, .bool false, .int .i64 0, .int .i64 0, .int .i64 1, .bool false, .bool false, .bool false, .int .i64 0, .int .i64 0, .int .i64 1, .bool false, .bool false, .bool false, .int .i64 0, .int .i64 0, .int .i64 2, .bool false, .bool false, .bool false, .int .i64 0, .int .i64 0, .int .i64 2, .bool false, .bool false, .bool false, .int .i64 0, .int .i64 0, .int .i64 2, .bool false, .bool false, .bool false, .int .i64 0, .int .i64 0, .int .i64 2, .bool false, .bool false, .bool false, .int .i64 0, .int .i64 0, .int .i64 2, .bool false, .bool false, .bool false, .int .i64 0, .int .i64 0, .int .i64 2, .bool false, .bool false, .bool false, .int .i64 0, .int .i64 0, .int .i64 2, .bool false, .bool false, .bool false, .int .i64 0, .int .i64 0, .int .i64 2, .bool false, .bool false, .bool false, .int .i64 0, .int .i64 0, .int .i64 2, .bool false, .bool false] t frozen
      | o => o).modify 0 fun
      | .cells _ t frozen => .cells #[.bool false, .int .i64 0, .int .i64 0, .int .i64 0, .bool false, .bool false, .bool true, .int .i64 0, .int .i64 0, .int .i64 1, .bool false, .bool false, .bool true, .int .i64 0, .int .i64 0, .int .i64 2, .bool false, .bool false, .bool true, .int .i64 1, .int .i64 4096, .int .i64 0, .bool false, .bool false, .bool true, .int .i64 0, .int .i64 0, .int .i64 0, .bool false, .bool false, .bool false, .int .i64 0, .int .i64 0, .int .i64 1, .bool false, .bool false, .bool false, .int .i64 0, .int .i64 0, .int .i64 1, .bool false, .bool false, .bool false, .int .i64 0, .int .i64 0, .int .i64 1, .bool true, .bool true, .bool false, .int .i64 0, .int .i64 0, .int .i64 1, .bool true, .bool false, .bool false, .int .i64 0, .int .i64 0, .int .i64 1, .bool false, .bool false] t frozen
      | o => o) }
theorem laid_met (os : Os) : laidMet Tryd.prog Rows.treeTellsUptoRow.laid ((laidWorld os).forCall (fun _ _ => 0) ⟨#[], #[.agg #[.slice none 0 0, .slice none 0 0], .agg #[.slice none 0 0, .slice none 0 0], .string ByteArray.empty], []⟩).memory :=
  laidMet_of_run' 8 (by kernel_rfl) (by kernel_rfl)
theorem reads (os : Os) {H : Type} (enc : TypeId × Value → H) : ∃ places, DataW.whole enc Tryd.prog ((laidWorld os).forCall (fun _ _ => 0) ⟨#[], #[.agg #[.slice none 0 0, .slice none 0 0], .agg #[.slice none 0 0, .slice none 0 0], .string ByteArray.empty], []⟩).memory Tryd.f3.params.toList Rows.treeTellsSpec.vars false #[Value.agg #[.slice none 0 0, .slice none 0 0], Value.agg #[.slice none 0 0, .slice none 0 0], Value.string ByteArray.empty].toList 8 = some ([.agg [.nil, .nil], .agg [.nil, .nil], .lit (.string [])], [], places) :=
  ⟨[], by kernel_rfl⟩
set_option maxRecDepth 100000 in
theorem lifted (os : Os) (started : os.Started) (H : Type) (enc : TypeId × Value → H) (F : Stop.Interp) :
    ReturnsInHanded {} Tryd.checked os 3 .any ((Rows.OpenSpec.upto Rows.treeTellsSpec).preRow enc Tryd.prog Tryd.f3 Rows.treeTellsUptoRow.domain false Rows.treeTellsUptoRow.laid) (((Rows.OpenSpec.upto Rows.treeTellsSpec).at F).post enc Tryd.prog Tryd.f3 false true false false) := by
  obtain ⟨places, hx⟩ := reads os enc
  refine returnsInHanded_of_row (C := Tryd.checked) (s := Rows.OpenSpec.upto Rows.treeTellsSpec) own started (by kernel_rfl) Tryd.func3
    (witness_row_at (enc := enc) (C := Tryd.checked) false (laidWorld os) #[.agg #[.slice none 0 0, .slice none 0 0], .agg #[.slice none 0 0, .slice none 0 0], .string ByteArray.empty] rfl (by kernel_rfl) (by kernel_rfl) (by kernel_rfl)
      (OpenSpec.preRow_of_cond 8 hx (by kernel_rfl) (fun k hk => by cases hk; kernel_rfl) (by kernel_rfl) (laid_met os))) ?_
  intro W base args ds gs before hval hW _ hk hsz hL _ _
  exact contract H enc W base args ds gs before hval hW hL hsz (hk _ rfl)
theorem said : Rows.TreeTellsUptoSaid :=
  OpenClaim.holds_of_cond 3 Tryd.f3 rfl rfl rfl rfl rfl rfl rfl ⟨rfl, rfl, rfl, rfl, rfl⟩ rfl rfl rfl rfl rfl (by kernel_rfl) Tryd.func3 (by kernel_rfl)
    (of_decide_eq_true (by kernel_rfl)) (by unfold Func.isWrapper; first | (rw [if_pos (by decide +kernel)]; kernel_rfl) | (rw [if_neg (by decide +kernel)]; exact ⟨rfl, rfl⟩))
    (fun os started H enc _ F => by rw [OpenClaim.pre_eq_preRow]; exact lifted os started H enc F)
theorem plain (f : FuncId) (fn : Func) (hf : Tryd.pinned.checked.prog.funcNamed "evenhand/evenhandlaw03.TreeTells" = some f) (hfn : Tryd.pinned.checked.prog.funcs[f]? = some fn) :
    false = Tryd.pinned.checked.prog.looks [] ∧ ∀ (j : Nat) t, fn.params[j]? = some t → Tryd.pinned.checked.prog.wantsStandIn t = false := by
  obtain rfl : f = 3 := Option.some.inj ((show Tryd.prog.funcNamed "evenhand/evenhandlaw03.TreeTells" = some 3 by kernel_rfl).symm.trans hf) |>.symm
  obtain rfl : fn = Tryd.f3 := (Option.some.inj (Tryd.func3.symm.trans hfn)).symm
  refine ⟨by kernel_rfl, fun j t ht => ?_⟩
  rw [Tryd.params3] at ht
  have ht' := Array.mem_of_getElem? ht
  have hm : t = 25 ∨ t = 25 ∨ t = 9 := by simpa using ht'
  rcases hm with rfl | rfl | rfl
  all_goals first | exact (show Tryd.prog.wantsStandIn _ = false by kernel_rfl)
theorem card : Rows.TreeTellsUptoCardSaid :=
  Claim7.holds_tied_plain_at .later [] _ _ _ _ said (fun _ h => by cases h) (by kernel_rfl) (fun _ h => by cases h) treeTellsUpto_row_tie rfl ⟨rfl, rfl⟩ (by kernel_rfl) rfl plain (by kernel_rfl)
end Go.Proofs.YtplckmpamekloaaDoor.treeTellsUpto
namespace Go.Proofs.YtplckmpamekloaaDoor
theorem treeTellsUpto_holds : Rows.TreeTellsUptoCardSaid := treeTellsUpto.card
#print axioms treeTellsUpto_holds
end Go.Proofs.YtplckmpamekloaaDoor
