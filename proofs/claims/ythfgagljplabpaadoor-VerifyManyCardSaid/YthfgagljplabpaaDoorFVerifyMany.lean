/- VerifyMany: for every input the law returns true; its row and its card. Conditions: the row's own (what package-level variables hold when the call begins). -/
import Derived.Test.YthfgagljplabpaaDoorCards
import Derived.Test.YthfgagljplabpaaDoorTie
import Derived.Test.YthfgagljplabpaaDoorVerifyMany
import Derived.WalkKit
import Derived.ProofKit
import Derived.OpenShut
import Derived.ShutString
import Derived.Deep.DeepHandedRow
import Derived.Lib.LaidTab
import Derived.SizedLaws
namespace Go.Proofs.YthfgagljplabpaaDoor.verifyMany
open Go.ChangeShapes Go.WideShapes Go.ChangeAt Go.RowKit
open Go.ChangeMaps (open_string shut_string)
set_option linter.unusedVariables false
theorem own : ownKnob Tryd.prog.godebug = none := by kernel_rfl
set_option maxRecDepth 100000 in
theorem sort_of {H : Type} {enc : TypeId × Value → H} {W : World} {base : Nat} {sp : Nat → Bool} {held : Bool} {fuel : Nat} {cs : List Value} {r : List UInt8 × Int × Int × Int × Int} {y : DataW H × List MemPlace} (h : DataW.trod enc Tryd.prog W base sp held fuel 50 cs = some y) (hy : y.1 = .agg [.lit (.string r.1), .lit (.int .i64 r.2.1), .lit (.int .i64 r.2.2.1), .lit (.int .i64 r.2.2.2.1), .lit (.int .i64 r.2.2.2.2)]) : cs = sortCells r := by
  obtain ⟨xs, m, _, rfl, hl, hxl, hf⟩ := DataW.trod_struct Tryd.underlying50 h
  have hc5 : Tryd.prog.cellsOf 50 = 5 := by kernel_rfl
  have hcs : Tryd.prog.cellsOf 9 = 1 := by kernel_rfl
  have hci : Tryd.prog.cellsOf 3 = 1 := by kernel_rfl
  have hcl : Tryd.prog.cellsOf 2 = 1 := by kernel_rfl
  rw [hc5] at hl
  match cs, hl with
  | [v0, v1, v2, v3, v4], _ =>
    match xs, hxl with
    | [y0, y1, y2, y3, y4], _ =>
      have h0 := hf 0 _ rfl
      have h1 := hf 1 _ rfl
      have h2 := hf 2 _ rfl
      have h3 := hf 3 _ rfl
      have h4 := hf 4 _ rfl
      simp [hcs, hci, hcl] at h0 h1 h2 h3 h4
      obtain ⟨s, e0, rfl, _⟩ := DataW.trod_string Tryd.underlying9 h0
      obtain ⟨n1, e1, rfl, _⟩ := DataW.trod_int Tryd.underlying3 h1
      obtain ⟨n2, e2, rfl, _⟩ := DataW.trod_int Tryd.underlying3 h2
      obtain ⟨n3, e3, rfl, _⟩ := DataW.trod_int Tryd.underlying2 h3
      obtain ⟨n4, e4, rfl, _⟩ := DataW.trod_int Tryd.underlying3 h4
      simp only [List.map_cons, List.map_nil, DataW.agg.injEq, List.cons.injEq, DataW.lit.injEq, Lit.string.injEq, Lit.int.injEq, true_and, and_true] at hy
      obtain ⟨q0, q1, q2, q3, q4⟩ := hy
      have z0 : s = ⟨r.1.toArray⟩ := by rw [← q0]
      cases e0; cases e1; cases e2; cases e3; cases e4
      unfold sortCells
      rw [← q1, ← q2, ← q3, ← q4, z0]
set_option maxRecDepth 100000 in
theorem flat_of : ∀ (rs : List (List UInt8 × Int × Int × Int × Int)) (cs : List Value), cs.length = rs.length * 5 → (∀ (i : Nat) (r : List UInt8 × Int × Int × Int × Int), rs[i]? = some r → (cs.drop (i * 5)).take 5 = sortCells r) → cs = rs.flatMap sortCells := by
  intro rs
  induction rs with
  | nil => intro cs h _; simpa using h
  | cons r rs ih =>
    intro cs h hr
    have h0 := hr 0 r rfl
    have h1 := ih (cs.drop 5) (by simp at h ⊢; omega) (fun i r' hi => by
      have := hr (i + 1) r' hi
      rw [List.drop_drop]
      rw [show 5 + i * 5 = (i + 1) * 5 by omega]; exact this)
    rw [List.flatMap_cons, ← h1, ← h0]
    simp
set_option maxRecDepth 100000 in
theorem srt {W : World} (h : laidMetH Tryd.prog [("evenhand/code.sorts", Rows.laid_evenhand_code_sorts)] W) : Srt W := by
  obtain ⟨ps, ⟨g', t', cs, fuel, p, q, hg', ht', hvar, hd, _, _⟩, _⟩ := h
  obtain rfl := Option.some.inj (gSrt.symm.trans hg')
  obtain rfl : t' = 72 := Option.some.inj (ht'.symm.trans (by kernel_rfl))
  obtain ⟨xs, m, _, hx, hl, hxl, hf⟩ := DataW.trod_array Tryd.underlying72 hd
  have hc : Tryd.prog.cellsOf 72 = 26 * 5 := by kernel_rfl
  have hc5 : Tryd.prog.cellsOf 50 = 5 := by kernel_rfl
  rw [hc] at hl
  rw [hc5] at hf
  have hxs : xs.map (·.1) = sortRows.map (fun r => (.agg [.lit (.string r.1), .lit (.int .i64 r.2.1), .lit (.int .i64 r.2.2.1), .lit (.int .i64 r.2.2.2.1), .lit (.int .i64 r.2.2.2.2)] : DataW Unit)) := by
    have := congrArg Prod.fst hx
    exact (DataW.agg.inj this).symm
  unfold Srt
  rw [hvar]
  have hcs : cs.toList = sortAll := flat_of sortRows cs.toList hl (fun i r hi => by
    have hi26 : i < 26 := (List.getElem?_eq_some_iff.1 hi).1
    have h1 := hf i hi26
    have h2 : (xs.map (·.1))[i]? = some (.agg [.lit (.string r.1), .lit (.int .i64 r.2.1), .lit (.int .i64 r.2.2.1), .lit (.int .i64 r.2.2.2.1), .lit (.int .i64 r.2.2.2.2)]) := by rw [hxs, List.getElem?_map, hi]; rfl
    rw [List.getElem?_map] at h2
    obtain ⟨y, hy, hye⟩ := Option.map_eq_some_iff.1 h2
    rw [hy] at h1
    exact sort_of h1 hye)
  rw [← hcs]
theorem tab {W : World} (h : laidMetH Tryd.prog Rows.verifyManyRow.laid W) : Tab W := srt h
set_option maxRecDepth 100000 in
theorem contract (H : Type) (enc : TypeId × Value → H) (W : World) (base : Nat) (args : Array Value) (ds gs : List (DataW H)) (before : List MemPlace)
    (hval : ∀ (j : Nat) t v, Tryd.f5.params[j]? = some t → args[j]? = some v → Value.okWide Tryd.prog W .any base t v)
    (hW : DataW.Whole enc Tryd.prog Tryd.f5.params.toList Rows.verifyManySpec.vars false W args.toList ds gs before) (hL : laidMetH Tryd.prog Rows.verifyManyRow.laid W)
    (hsz0 : (DataW.weightsEach Tryd.prog (Tryd.f5.params.toList ++ Rows.verifyManySpec.plain.varTypes Tryd.prog) (ds ++ gs)).all (· ≤ reachBytes) = true) :
    Calls Tryd.prog 5 args W fun e W' => ∃ v, e = .returned v ∧ Rows.verifyManySpec.post enc Tryd.prog Tryd.f5 false true false false W args v W' := by
  have hW' := hW
  obtain ⟨p, q, hA0, hV, rfl, hfz, hnd⟩ := hW
  have hA : DataW.TrodAll enc Tryd.prog W 0 (fun _ => true) true Tryd.f5.params.toList args.toList ds p := hA0
  have hsz := hsz0
  rw [Tryd.params5] at hA hval hsz
  obtain ⟨v0, vs0, d0, ds0, p0, q0, hargs, rfl, rfl, h0, r0⟩ := trodAll_cons hA
  obtain ⟨v1, vs1, d1, ds1, p1, q1, rfl, rfl, rfl, h1, r1⟩ := trodAll_cons r0
  obtain ⟨v2, vs2, d2, ds2, p2, q2, rfl, rfl, rfl, h2, r2⟩ := trodAll_cons r1
  obtain ⟨v3, vs3, d3, ds3, p3, q3, rfl, rfl, rfl, h3, r3⟩ := trodAll_cons r2
  obtain ⟨rfl, rfl, rfl⟩ := trodAll_nil r3
  obtain rfl : args = #[v0, v1, v2, v3] := by cases args; simp_all
  obtain ⟨rfl, rfl⟩ := trodVars_none hV
  obtain ⟨a0, rfl, rfl, rfl, w0⟩ := open_int Tryd.underlying3 (hval 0 3 v0 rfl rfl) h0
  have b0 := bounds_i64 w0
  obtain ⟨a1, rfl, rfl, rfl, w1⟩ := open_int Tryd.underlying3 (hval 1 3 v1 rfl rfl) h1
  have b1 := bounds_i64 w1
  obtain ⟨a2, rfl, rfl, rfl, w2⟩ := open_int Tryd.underlying3 (hval 2 3 v2 rfl rfl) h2
  have b2 := bounds_i64 w2
  obtain ⟨a3, rfl, rfl, rfl, w3⟩ := open_int Tryd.underlying3 (hval 3 3 v3 rfl rfl) h3
  have b3 := bounds_i64 w3
  simp only [List.append_nil] at hW'
  refine (many_walk a0 a1 a2 a3  W (tab hL)).mono fun e W' ⟨he, bel⟩ => ?_
  subst he
  exact ⟨_, rfl, _, _, _, [], _, [], hW', trodAll_mk1 (shut_bool Tryd.underlying4 _), (trodAll_cons_mk (shut_int Tryd.underlying3 w0) (trodAll_cons_mk (shut_int Tryd.underlying3 w1) (trodAll_cons_mk (shut_int Tryd.underlying3 w2) (trodAll_cons_mk (shut_int Tryd.underlying3 w3) trodAll_mk0)))), rfl, bel.frame _, fun h => by cases h⟩
noncomputable def laidWorld (os : Os) : World :=
  { World.holding Tryd.prog os ⟨#[], #[], []⟩ with heap := ((World.holding Tryd.prog os ⟨#[], #[], []⟩).heap.modify 0 fun
      | .cells _ t frozen => .cells #[.string ⟨#[63]⟩, .int .i64 0, .int .i64 0, .int .i64 (-1), .int .i64 0, .string ⟨#[112, 117, 115, 104]⟩, .int .i64 0, .int .i64 1, .int .i64 0, .int .i64 2, .string ⟨#[108, 111, 97, 100]⟩, .int .i64 0, .int .i64 1, .int .i64 0, .int .i64 1, .string ⟨#[115, 116, 111, 114, 101]⟩, .int .i64 1, .int .i64 0, .int .i64 0, .int .i64 1, .string ⟨#[110, 101, 103]⟩, .int .i64 1, .int .i64 1, .int .i64 0, .int .i64 0, .string ⟨#[110, 111, 116]⟩, .int .i64 1, .int .i64 1, .int .i64 0, .int .i64 0, .string ⟨#[97, 100, 100]⟩, .int .i64 2, .int .i64 1, .int .i64 0, .int .i64 0, .string ⟨#[115, 117, 98]⟩, .int .i64 2, .int .i64 1, .int .i64 0, .int .i64 0, .string ⟨#[109, 117, 108]⟩, .int .i64 2, .int .i64 1, .int .i64 2, .int .i64 0, .string ⟨#[100, 105, 118]⟩, .int .i64 2, .int .i64 1, .int .i64 7, .int .i64 0, .string ⟨#[109, 111, 100]⟩, .int .i64 2, .int .i64 1, .int .i64 7, .int .i64 0, .string ⟨#[108, 101, 115, 115]⟩, .int .i64 2, .int .i64 1, .int .i64 0, .int .i64 0, .string ⟨#[115, 97, 109, 101]⟩, .int .i64 2, .int .i64 1, .int .i64 0, .int .i64 0, .string ⟨#[97, 110, 100]⟩, .int .i64 2, .int .i64 1, .int .i64 0, .int .i64 0, .string ⟨#[111, 114]⟩, .int .i64 2, .int .i64 1, .int .i64 0, .int .i64 0, .string ⟨#[106, 117, 109, 112]⟩, .int .i64 0, .int .i64 0, .int .i64 0, .int .i64 1, .string ⟨#[122, 101, 114, 111]⟩, .int .i64 1, .int .i64 0, .int .i64 0, .int .i64 1, .string ⟨#[99, 97, 108, 108]⟩, .int .i64 0, .int .i64 1, .int .i64 9, .int .i64 1, .string ⟨#[114, 101, 116, 117, 114, 110]⟩, .int .i64 1, .int .i64 0, .int .i64 1, .int .i64 0, .string ⟨#[112, 114, 105, 110, 116]⟩, .int .i64 1, .int .i64 0, .int .i64 4, .int .i64 0, .string ⟨#[107, 101, 101, 112]⟩, .int .i64 1, .int .i64 0, .int .i64 4, .int .i64 0, .string ⟨#[105, 110, 112, 117, 116]⟩, .int .i64 0, .int .i64 0, .int .i64 3, .int .i64 3, .string ⟨#[97, 114, 114, 97, 121]⟩, .int .i64 0, .int .i64 0, .int .i64 19, .int .i64 3, .string ⟨#[103, 101, 116]⟩, .int .i64 1, .int .i64 1, .int .i64 2, .int .i64 1, .string ⟨#[115, 101, 116]⟩, .int .i64 2, .int .i64 0, .int .i64 2, .int .i64 1, .string ⟨#[99, 108, 111, 99, 107]⟩, .int .i64 0, .int .i64 1, .int .i64 1, .int .i64 0] t frozen
      | o => o) }
theorem laid_met (os : Os) : laidMet Tryd.prog Rows.verifyManyRow.laid ((laidWorld os).forCall (fun _ _ => 0) ⟨#[], #[.int .i64 0, .int .i64 0, .int .i64 0, .int .i64 0], []⟩).memory :=
  laidMet_of_run' 8 (by kernel_rfl) (by kernel_rfl)
theorem reads (os : Os) {H : Type} (enc : TypeId × Value → H) : ∃ places, DataW.whole enc Tryd.prog ((laidWorld os).forCall (fun _ _ => 0) ⟨#[], #[.int .i64 0, .int .i64 0, .int .i64 0, .int .i64 0], []⟩).memory Tryd.f5.params.toList Rows.verifyManySpec.vars false #[Value.int .i64 0, Value.int .i64 0, Value.int .i64 0, Value.int .i64 0].toList 8 = some ([.lit (.int .i64 0), .lit (.int .i64 0), .lit (.int .i64 0), .lit (.int .i64 0)], [], places) :=
  ⟨[], by kernel_rfl⟩
set_option maxRecDepth 100000 in
theorem lifted (os : Os) (started : os.Started) (H : Type) (enc : TypeId × Value → H) (F : Stop.Interp) :
    ReturnsInHanded {} Tryd.checked os 5 .any ((OpenSpec.ofChange Rows.verifyManySpec).preRow enc Tryd.prog Tryd.f5 Rows.verifyManyRow.domain false Rows.verifyManyRow.laid) (((OpenSpec.ofChange Rows.verifyManySpec).at F).post enc Tryd.prog Tryd.f5 false true false false) := by
  obtain ⟨places, hx⟩ := reads os enc
  refine returnsInHanded_of_row (C := Tryd.checked) (s := OpenSpec.ofChange Rows.verifyManySpec) own started (by kernel_rfl) Tryd.func5
    (witness_row_at (enc := enc) (C := Tryd.checked) false (laidWorld os) #[.int .i64 0, .int .i64 0, .int .i64 0, .int .i64 0] rfl (by kernel_rfl) (by kernel_rfl) (by kernel_rfl)
      (OpenSpec.preRow_of_cond 8 hx (by kernel_rfl) (fun k hk => by cases hk) (by kernel_rfl) (laid_met os))) ?_
  intro W base args ds gs before hval hW _ _ hsz hL _ _
  exact contract H enc W base args ds gs before hval hW hL hsz
theorem said : Rows.VerifyManySaid :=
  OpenClaim.holds_of_cond 5 Tryd.f5 rfl rfl rfl rfl rfl rfl rfl ⟨rfl, rfl, rfl, rfl, rfl⟩ rfl rfl rfl rfl rfl (by kernel_rfl) Tryd.func5 (by kernel_rfl)
    (of_decide_eq_true (by kernel_rfl)) (by unfold Func.isWrapper; first | (rw [if_pos (by decide +kernel)]; kernel_rfl) | (rw [if_neg (by decide +kernel)]; exact ⟨rfl, rfl⟩))
    (fun os started H enc _ F => by rw [OpenClaim.pre_eq_preRow]; exact lifted os started H enc F)
theorem plain (f : FuncId) (fn : Func) (hf : Tryd.pinned.checked.prog.funcNamed "evenhand/evenhandlaw10.VerifyMany" = some f) (hfn : Tryd.pinned.checked.prog.funcs[f]? = some fn) :
    false = Tryd.pinned.checked.prog.looks [] ∧ ∀ (j : Nat) t, fn.params[j]? = some t → Tryd.pinned.checked.prog.wantsStandIn t = false := by
  obtain rfl : f = 5 := Option.some.inj ((show Tryd.prog.funcNamed "evenhand/evenhandlaw10.VerifyMany" = some 5 by kernel_rfl).symm.trans hf) |>.symm
  obtain rfl : fn = Tryd.f5 := (Option.some.inj (Tryd.func5.symm.trans hfn)).symm
  refine ⟨by kernel_rfl, fun j t ht => ?_⟩
  rw [Tryd.params5] at ht
  have ht' := Array.mem_of_getElem? ht
  have hm : t = 3 ∨ t = 3 ∨ t = 3 ∨ t = 3 := by simpa using ht'
  rcases hm with rfl | rfl | rfl | rfl
  all_goals first | exact (show Tryd.prog.wantsStandIn _ = false by kernel_rfl)
theorem card : Rows.VerifyManyCardSaid :=
  Claim7.holds_tied_plain_at .later [] _ _ _ _ said (fun _ h => by cases h) (by kernel_rfl) (fun _ h => by cases h) verifyMany_row_tie rfl ⟨rfl, rfl⟩ (by kernel_rfl) rfl plain (by kernel_rfl)
end Go.Proofs.YthfgagljplabpaaDoor.verifyMany
namespace Go.Proofs.YthfgagljplabpaaDoor
theorem verifyMany_holds : Rows.VerifyManyCardSaid := verifyMany.card
#print axioms verifyMany_holds
end Go.Proofs.YthfgagljplabpaaDoor
