/- The reference's Compile: what a resolved program is compiled to. -/
import Derived.Test.YthjjcmmonjajhaaGreatDoorRefStmts
namespace Go.Proofs.YthjjcmmonjajhaaGreatDoor
open Go.RowKit Go.Sort
set_option linter.unusedVariables false

theorem infoFR : (Tryz.prog.info? 44).map (fun i => (i.zero, i.size, i.bytes)) = some (some (.agg #[.string ⟨#[]⟩, .int .i64 0, .int .i64 0, .int .i64 0, .slice none 0 0]), 5, 64) := by kernel_rfl
theorem own_of_grown9 {W W' : World} {row : Option Nat} {B : Nat} {o : Obj} (h : W.heap[B]? = some o) (hg : W.grownBy W' row) (hne : some B ≠ row) : W'.heap[B]? = some o := (hg.block B (Array.getElem?_eq_some_iff.1 h).1 hne).trans h
theorem fnRows_next (l : List VF) (ls : Nat → Value) (k : Nat) : fnRows l ls (k + 1) = fnRows l ls k ++ fnC l ls k := by unfold fnRows; rw [List.range_succ, List.flatMap_append]; simp
/-- So many functions have been compiled. -/
structure FI (W0 : World) (l : List VF) (k : Nat) (v : Value) (wr : World) : Prop where
  below : Below W0.heap.size W0 wr
  got : ∃ ls : Nat → Value, wr.ownsRow W0.heap.size 44 5 v k (fnRows l ls k) ∧ ∀ i, i < k → OwnI W0.heap.size wr (ls i) (l.getD i default).l
theorem FI.vsl {W0 : World} {l : List VF} {v : Value} {wr : World} (h : FI W0 l l.length v wr) (hs : ∀ i, i < l.length → (l.getD i default).l.length ≤ 17592186044416) : VSl wr v l := by
  obtain ⟨_, ls, h2, h3⟩ := h
  have h2' := h2
  obtain ⟨_, ⟨rfl, h0⟩ | ⟨q, cap', cur, rfl, _, hk, hn, hmx, hsz, ht⟩⟩ := h2
  · obtain rfl : l = [] := List.eq_nil_of_length_eq_zero h0
    exact VSl.nil _
  · refine VSl.mk (w := wr) (some ⟨q, 0, none⟩) q 0 cap' l ls (fun _ => rfl) hn hmx (fun i hi => ?_) (fun i hi => (h3 i hi).isl (hs i hi))
    have hc : ∀ j, j < 5 → wr.cell? ⟨q, i * 5 + j, none⟩ = (fnC l ls i)[j]? := fun j hj => by
      rw [own_cell h2' _ (by omega)]
      exact rows_at 5 (fnC l ls) (fun _ => rfl) _ i j hi hj
    simp only [Nat.zero_add]
    exact ⟨hc 0 (by omega), hc 1 (by omega), hc 2 (by omega), hc 3 (by omega), hc 4 (by omega)⟩
theorem FI.next {W0 w4 w5 : World} {l : List VF} {k : Nat} {v v' x : Value} {ls : Nat → Value} (hB : Below W0.heap.size W0 w5) (ho : w4.ownsRow W0.heap.size 44 5 v k (fnRows l ls k)) (hr : ∀ i, i < k → OwnI W0.heap.size w4 (ls i) (l.getD i default).l) (hx : OwnI W0.heap.size w4 x (l.getD k default).l)
    (hg : w4.grownBy w5 v.ownBlock) (ho5 : w5.ownsRow W0.heap.size 44 5 v' (k + 1) (fnRows l ls k ++ [.string (l.getD k default).name, .int .i64 (l.getD k default).params, .int .i64 (l.getD k default).vars, .int .i64 (l.getD k default).arrays, x])) : FI W0 l (k + 1) v' w5 := by
  refine ⟨hB, fun i => if i = k then x else ls i, ?_, fun i hi => ?_⟩
  · have e : fnRows l (fun i => if i = k then x else ls i) (k + 1) = fnRows l ls k ++ [.string (l.getD k default).name, .int .i64 (l.getD k default).params, .int .i64 (l.getD k default).vars, .int .i64 (l.getD k default).arrays, x] := by
      unfold fnRows
      rw [List.range_succ, List.flatMap_append, rows_congr _ (fnC l ls) k (fun i hi => by unfold fnC; dsimp only; rw [if_neg (by omega)])]
      simp [fnC]
    rw [e]; exact ho5
  · dsimp only
    by_cases e : i = k
    · subst e; rw [if_pos rfl]; exact own_other hx ho (by decide) hg
    · rw [if_neg e]; exact own_other (hr i (by omega)) ho (by decide) hg
theorem cell6_new (w : World) (x : List Value) (t : TypeId) : ∀ j u, x[j]? = some u → (w.alloc (.cells x.toArray t)).cell? ((⟨w.heap.size, 0, none⟩ : Addr).add j) = some u := by
  intro j u h
  rw [addr_add0, Nat.zero_add]
  have := cell_of_heap (heap_alloc_new w (.cells x.toArray t)) j
  rw [this]; simpa using h

set_option maxHeartbeats 16000000 in
set_option maxRecDepth 1000000 in
theorem rcomp_r (a1 a2 : Option Addr) (n1 n2 k1 k2 : Nat) (p : PT) (sv : Value) (w : World) (hp : PR w (.slice a1 n1 k1) (.slice a2 n2 k2) p) (hs : CSl w sv p.scopes) (hN : p.nodes.length ≤ 2000000) (h0 : p.resolve = 0) :
    Calls Tryz.prog 8 #[.agg #[.slice a1 n1 k1, .slice a2 n2 k2], sv] w fun e w' => ∃ v, e = .returned v ∧ Below w.heap.size w w' ∧ VSl w' v p.code := by
  obtain ⟨iT, hi, hz0, hz1, hz2⟩ := info_parts infoIR
  obtain ⟨iF, hF, hF0, hF1, hF2⟩ := info_parts infoFR
  obtain ⟨hr0, -, hall⟩ := PT.resolve_parts h0
  obtain ⟨hl33, hok⟩ := PT.all_ok hr0 hN
  obtain ⟨-, hnodes, -⟩ := PT.right0 hr0
  obtain ⟨b, off, ff, gg, hfr⟩ := hp.1.rw9
  obtain ⟨ga, gc, rfl, hg1, hg2⟩ := hs.len9
  have hpl : p.scopes.length = p.all.length := p.scopes_len
  have hn1 : p.all.length = n1 + 1 := by have := hfr.len; have := p.all_len; omega
  have hn32 : n1 ≤ 32 := by omega
  rw [hpl, hn1] at hs ⊢
  have HP := Lib.hid hp
  have HS := Lib.hid hs
  have HN := Lib.hid hN
  have H0 := Lib.hid h0
  have HALL := Lib.hid hall
  have HND := Lib.hid hnodes
  have HFR := Lib.hid hfr
  have HNL := Lib.hid hn1
  have hgc : n1 + 1 ≤ gc := by omega
  clear hp hs hN h0 hall hnodes hfr hn1 hpl hok hl33 hr0 hg1
  have HPB : Hid ((w.alloc (.cells #[.slice a1 n1 k1, .slice a2 n2 k2] 25)).heap[w.heap.size]? = some (.cells #[.slice a1 n1 k1, .slice a2 n2 k2] 25 (0, 0))) := heap_alloc_new _ _
  have HBA : Hid (Below w.heap.size w (w.alloc (.cells #[.slice a1 n1 k1, .slice a2 n2 k2] 25))) := hb_alloc (hb_start w) _
  have HSZ : Hid ((w.alloc (.cells #[.slice a1 n1 k1, .slice a2 n2 k2] 25)).heap.size = w.heap.size + 1) := by show _ = _; rw [World.size_alloc]
  go_enter Tryz.func8, Tryz.ntmps8
  go_wp2
  generalize hW0 : w.alloc (.cells #[.slice a1 n1 k1, .slice a2 n2 k2] 25) = W0 at HPB HBA HSZ ⊢
  clear hW0
  go_loopw [5, 6] (fun v i wr => ∃ k : Nat, i = .int .i64 k ∧ k ≤ n1 + 1 ∧ Hid (FI W0 p.code k v wr)) (fun _ i _ => n1 + 1 - (intOf i).toNat)
  case atStart => exact ⟨0, rfl, Nat.zero_le _, ⟨(Below.refl _ _).alloc (Nat.le_refl _) _, fun _ => undef, by rw [← HSZ.out]; exact own_empty9 _ _ _ _ (Nat.le_refl _), fun i hi => absurd hi (by omega)⟩⟩
  case round =>
    obtain ⟨k, rfl, hk, HQ⟩ := hrel
    obtain ⟨hqb, ls, hqo, hqr⟩ := HQ.out
    obtain ⟨la, lc, rfl⟩ := own_shape hqo
    have HB := Lib.hid hqb
    have HO := Lib.hid hqo
    have HR := Lib.hid hqr
    clear hqb hqo hqr
    have HWr : Hid (Below w.heap.size w wr) := HBA.out.trans (HB.out.mono HBA.out.size)
    by_cases hlt : k < n1 + 1
    · obtain ⟨qb, qo, va, vc, aa, ac, rfl, ⟨t0, t1, t2, t3⟩, htv, hta⟩ := HS.out.at9 k hlt
      have hz : qb < w.heap.size := lt_of_cell t0
      replace t0 := (HWr.out.cell (p := ⟨qb, qo + k * 4, none⟩) hz).trans t0
      replace t1 := (HWr.out.cell (p := ⟨qb, qo + k * 4 + 1, none⟩) hz).trans t1
      replace t2 := (HWr.out.cell (p := ⟨qb, qo + k * 4 + 2, none⟩) hz).trans t2
      replace t3 := (HWr.out.cell (p := ⟨qb, qo + k * 4 + 3, none⟩) hz).trans t3
      have hka : k < p.all.length := by rw [HNL.out]; exact hlt
      have hma : p.all.getD k default ∈ p.all := by rw [List.getD_eq_getElem?_getD, List.getElem?_eq_getElem hka]; exact List.getElem_mem _
      rw [p.scope_at hka] at t0 t1 t2 t3 htv hta
      have hVF : p.code.getD k default = FT.vf p (p.all.getD k default) := p.code_at hka
      obtain ⟨Lx, hLx, hLl, -⟩ := FT.code_ok H0.out HN.out hma
      have hfull := (HALL.out _ hma).2
      unfold FS.full at hfull
      simp only [Bool.or_eq_false_iff, decide_eq_false_iff_not] at hfull
      have hbody := PT.bodies_all HND.out _ hma
      have hbs : ∃ bv : Value, SSl w bv (p.all.getD k default).body ∧ ((k = 0 ∧ bv = .slice a2 n2 k2) ∨ ∃ k0, k = k0 + 1 ∧ a1 = some ⟨b, off, none⟩ ∧ w.cell? ⟨b, off + k0 * 3 + 2, none⟩ = some bv) := by
        cases k with
        | zero => exact ⟨_, HP.out.2, .inl ⟨rfl, rfl⟩⟩
        | succ k0 =>
          rw [p.all_succ]
          obtain ⟨_, _, r2⟩ := fcellC_at p.funcs ff gg k0
          have e2 := HFR.out.cell (k0 * 3 + 2) (by omega)
          rw [r2, ← Nat.add_assoc] at e2
          exact ⟨_, HFR.out.bs k0 (by omega), .inr ⟨k0, rfl, HFR.out.at_ (by omega), e2⟩⟩
      obtain ⟨bv, hbv, hbc⟩ := hbs
      have henv : Env9 w (.slice (some ⟨qb, qo, none⟩) (n1 + 1) gc) (.slice va (FT.sc p.funcs (p.all.getD k default)).vars.length vc) (.slice aa (FT.sc p.funcs (p.all.getD k default)).arrays.length ac) p.scopes (FT.sc p.funcs (p.all.getD k default)) := ⟨HS.out, htv, hta, by rw [p.scopes_len, HNL.out]; omega⟩
      have hLe : ST.codeL p.scopes (FT.sc p.funcs (p.all.getD k default)) (p.all.getD k default).body 0 = Lx := by
        have e : ST.codeL p.scopes (FT.sc p.funcs (p.all.getD k default)) (p.all.getD k default).body 0 ++ [⟨1, 0, 0⟩] ++ [⟨18, 0, 0⟩] = Lx ++ [⟨1, 0, 0⟩] ++ [⟨18, 0, 0⟩] := hLx
        exact List.append_cancel_right (List.append_cancel_right e)
      have hI := cstmts_in w _ _ _ p.scopes _ henv (by show (((p.all.getD k default).found p.funcs).vars.length) ≤ _; omega) (by show (((p.all.getD k default).found p.funcs).arrays.length) ≤ _; omega) (by rw [p.scopes_len, HNL.out]; omega) hbv 1 hbody (by rw [hLe]; omega)
      unfold StsOk at hI
      rw [hLe] at hI
      have hVL : (p.code.getD k default).l = Lx ++ [⟨1, 0, 0⟩, ⟨18, 0, 0⟩] := by rw [hVF]; show (p.all.getD k default).code p = _; rw [hLx, List.append_assoc]; rfl
      have hV1 : (p.code.getD k default).name = (FT.sc p.funcs (p.all.getD k default)).name := by rw [hVF]; rfl
      have hV2 : (p.code.getD k default).params = (FT.sc p.funcs (p.all.getD k default)).params := by rw [hVF]; rfl
      have hV3 : (p.code.getD k default).vars = ((FT.sc p.funcs (p.all.getD k default)).vars.length : Int) := by rw [hVF]; rfl
      have hV4 : (p.code.getD k default).arrays = ((FT.sc p.funcs (p.all.getD k default)).arrays.length : Int) := by rw [hVF]; rfl
      obtain ⟨ba, bc, hbsh⟩ := hbv.shape0
      generalize (p.all.getD k default).body.length = bl at hbsh
      subst hbsh
      generalize FT.sc p.funcs (p.all.getD k default) = sc at t0 t1 t2 t3 hI hV1 hV2 hV3 hV4
      generalize sc.name = nm at t0 hI hV1
      generalize sc.params = pm at t1 hI hV2
      generalize sc.vars.length = vn at t2 hI hV3
      generalize sc.arrays.length = an at t3 hI hV4
      have HI2 := Lib.hid hI
      have HVV := Lib.hid (And.intro hVL (And.intro hV1 (And.intro hV2 (And.intro hV3 hV4))))
      clear hI hVL hV1 hV2 hV3 hV4 henv hbv hVF hLx hLe hfull hbody hma hka htv hta hz
      have HPBr := Lib.hid ((HB.out.block _ (lt_of_heap HPB.out)).trans HPB.out)
      have hPX := (Below.heap_alloc wr (.cells #[.string nm, .int .i64 pm, .slice va vn vc, .slice aa an ac] 77) _ (lt_of_heap HPBr.out)).trans HPBr.out
      have x0 : (wr.alloc (.cells #[.string nm, .int .i64 pm, .slice va vn vc, .slice aa an ac] 77)).cell? ⟨w.heap.size, 0, none⟩ = some (.slice a1 n1 k1) := cell_of_heap hPX 0
      have x1 : (wr.alloc (.cells #[.string nm, .int .i64 pm, .slice va vn vc, .slice aa an ac] 77)).cell? ⟨w.heap.size, 1, none⟩ = some (.slice a2 n2 k2) := cell_of_heap hPX 1
      clear hPX
      have hkI : (k : Int) < (n1 : Int) + 1 := by omega
      obtain ⟨ol, hol⟩ : ∃ x, Lx.length = x := ⟨_, rfl⟩
      have HOL := Lib.hid hol
      rw [hol] at hLl
      clear hol
      have HSX : Hid ((wr.alloc (.cells #[.string nm, .int .i64 pm, .slice va vn vc, .slice aa an ac] 77)).heap[wr.heap.size]? = some (.cells #[.string nm, .int .i64 pm, .slice va vn vc, .slice aa an ac] 77 (0, 0))) := heap_alloc_new _ _
      have HBX : Hid (Below W0.heap.size W0 (wr.alloc (.cells #[.string nm, .int .i64 pm, .slice va vn vc, .slice aa an ac] 77))) := HB.out.alloc HB.out.size _
      have HWx : Hid (Below w.heap.size w (wr.alloc (.cells #[.string nm, .int .i64 pm, .slice va vn vc, .slice aa an ac] 77))) := hb_alloc HWr _
      have HOX := Lib.hid (HO.out.alloc (.cells #[.string nm, .int .i64 pm, .slice va vn vc, .slice aa an ac] 77))
      have HRX : Hid (∀ i, i < k → OwnI W0.heap.size (wr.alloc (.cells #[.string nm, .int .i64 pm, .slice va vn vc, .slice aa an ac] 77)) (ls i) (p.code.getD i default).l) := fun i hi => World.ownsRow.alloc (HR.out i hi) _
      have HRlt : Hid (∀ i, i < k → ∀ q, (ls i).ownBlock = some q → q < (wr.alloc (.cells #[.string nm, .int .i64 pm, .slice va vn vc, .slice aa an ac] 77)).heap.size) := fun i hi q e => (HRX.out i hi).lt q e |>.2
      rcases hbc with ⟨rfl, hbe⟩ | ⟨k0, rfl, rfl, hcq⟩
      · cases hbe
        clear x0
        simp only [Nat.zero_mul, Nat.add_zero] at t0 t1 t2 t3
        go_wp2_with (first
          | (go_at_call 21; refine (HI2.out _ HWx.out).mono ?_; rintro e w2 ⟨v2, rfl, hb, ho⟩; obtain ⟨ya, yc, hvs⟩ := ho.shape; have hol := HOL.out; rw [hol] at hvs; clear hol; subst hvs; have HYG : Hid (∀ q, (Value.slice ya ol yc).ownBlock = some q → (wr.alloc (.cells #[.string nm, .int .i64 pm, .slice va vn vc, .slice aa an ac] 77)).heap.size ≤ q) := fun q e => (World.ownsRow.lt ho q e).1; have hoo : w2.ownsRow W0.heap.size 47 3 (.slice ya ol yc) ol (insR Lx) := (by have := OwnI.lower ho HBX.out.size; unfold OwnI at this; rwa [HOL.out] at this); have HB2 : Hid (Below W0.heap.size W0 w2) := HBX.out.trans (hb.mono HBX.out.size); have HO2 := Lib.hid (own_hold9 HOX.out hb); have HR2 : Hid (∀ i, i < 0 → OwnI W0.heap.size w2 (ls i) (p.code.getD i default).l) := fun i hi => OwnI.stay (HRX.out i hi) hb; have HSX2 := Lib.hid ((hb.block _ (lt_of_heap HSX.out)).trans HSX.out); have HOA := Lib.hid (hoo.alloc (.cells #[.int .i64 1, .int .i64 0, .int .i64 0, .int .i64 18, .int .i64 0, .int .i64 0] 47)); have HC := Lib.hid (cell6_new w2 [.int .i64 1, .int .i64 0, .int .i64 0, .int .i64 18, .int .i64 0, .int .i64 0] 47); have HBA2 : Hid (Below W0.heap.size W0 (w2.alloc (.cells #[.int .i64 1, .int .i64 0, .int .i64 0, .int .i64 18, .int .i64 0, .int .i64 0] 47))) := HB2.out.alloc HB2.out.size _; clear hb ho hoo)
          | (at_builtin; refine wpList_append_own _ rfl _ _ 42 rfl W0.heap.size 47 iT (.agg #[.int .i64 0, .int .i64 0, .int .i64 0]) 3 24 Tryz.underlying42 hi hz0 hz1 hz2 rfl (by decide) _ _ _ rfl HOA.out ⟨w2.heap.size, 0, none⟩ 2 2 [.int .i64 1, .int .i64 0, .int .i64 0, .int .i64 18, .int .i64 0, .int .i64 0] rfl rfl HC.out (by simp [Value.oneCell']) (by unfold maxLen; omega) (by omega) HBA2.out.size ?_; intro v3 w3 hown' hgrow _; obtain ⟨g3, cap3, rfl⟩ := ownsRow_succ' hown'; have HO3 := Lib.hid hown'; have HB3 : Hid (Below W0.heap.size W0 w3) := below_own9 HBA2.out HBA2.out.size HOA.out hgrow; have HF3 := Lib.hid (own_other (HO2.out.alloc (.cells #[.int .i64 1, .int .i64 0, .int .i64 0, .int .i64 18, .int .i64 0, .int .i64 0] 47)) HOA.out (by decide) hgrow); have HR3 : Hid (∀ i, i < 0 → OwnI W0.heap.size w3 (ls i) (p.code.getD i default).l) := fun i hi => OwnI.apart (World.ownsRow.alloc (HR2.out i hi) _) hgrow (fun q e h => by have h1 := HRlt.out i hi q h; have h2 := HYG.out q e; omega); have HSX3 := Lib.hid (own_of_grown9 ((Below.heap_alloc _ _ _ (lt_of_heap HSX2.out)).trans HSX2.out) hgrow (own_ne_box HOA.out ((Below.heap_alloc _ _ _ (lt_of_heap HSX2.out)).trans HSX2.out) (by decide))); have u0 : w3.cell? ⟨wr.heap.size, 0, none⟩ = some (.string nm) := cell_of_heap HSX3.out 0; have u1 : w3.cell? ⟨wr.heap.size, 1, none⟩ = some (.int .i64 pm) := cell_of_heap HSX3.out 1; have u2 : w3.cell? ⟨wr.heap.size, 2, none⟩ = some (.slice va vn vc) := cell_of_heap HSX3.out 2; have u3 : w3.cell? ⟨wr.heap.size, 3, none⟩ = some (.slice aa an ac) := cell_of_heap HSX3.out 3; have HOF := Lib.hid (HF3.out.alloc (.cells #[.string nm, .int .i64 pm, .int .i64 vn, .int .i64 an, .slice (some ⟨g3, 0, none⟩) (ol + 2) cap3] 44)); have HCF := Lib.hid (cell6_new w3 [.string nm, .int .i64 pm, .int .i64 vn, .int .i64 an, .slice (some ⟨g3, 0, none⟩) (ol + 2) cap3] 44); have HBF : Hid (Below W0.heap.size W0 (w3.alloc (.cells #[.string nm, .int .i64 pm, .int .i64 vn, .int .i64 an, .slice (some ⟨g3, 0, none⟩) (ol + 2) cap3] 44))) := HB3.out.alloc HB3.out.size _; clear hown' hgrow HOA)
          | (at_builtin; refine wpList_append_own _ rfl _ _ 37 rfl W0.heap.size 44 iF (.agg #[.string ⟨#[]⟩, .int .i64 0, .int .i64 0, .int .i64 0, .slice none 0 0]) 5 64 Tryz.underlying37 hF hF0 hF1 hF2 rfl (by decide) _ _ _ rfl HOF.out ⟨w3.heap.size, 0, none⟩ 1 1 [.string nm, .int .i64 pm, .int .i64 vn, .int .i64 an, .slice (some ⟨g3, 0, none⟩) (ol + 2) cap3] rfl rfl HCF.out (by simp [Value.oneCell']) (by unfold maxLen; omega) (by omega) HBF.out.size ?_; intro v' w5 hown' hgrow _; have HO5 := Lib.hid hown'; have HG5 := Lib.hid hgrow; have HB5 : Hid (Below W0.heap.size W0 w5) := below_own9 HBF.out HBF.out.size HOF.out hgrow; clear hown' hgrow))
        have HFN : Hid (FI W0 p.code (0 + 1) _ _) := FI.next (x := .slice (some ⟨g3, 0, none⟩) (ol + 2) cap3) HB5.out HOF.out (fun i hi => World.ownsRow.alloc (HR3.out i hi) _) (World.ownsRow.alloc (by have h := HO3.out; rw [HVV.out.1, List.length_append, insR_append, HOL.out]; exact h) _) HG5.out (by rw [HVV.out.2.1, HVV.out.2.2.1, HVV.out.2.2.2.1, HVV.out.2.2.2.2]; exact HO5.out)
        go_roundw
        case rel => exact ⟨0 + 1, rfl, by omega, HFN⟩
        case measure => simp [intOf]; try omega
      · have x2 : (wr.alloc (.cells #[.string nm, .int .i64 pm, .slice va vn vc, .slice aa an ac] 77)).cell? ⟨b, off + k0 * 3 + 2, none⟩ = some (.slice ba bl bc) := (HWx.out.cell (p := ⟨b, off + k0 * 3 + 2, none⟩) (lt_of_cell hcq)).trans hcq
        have hk0 : (k0 : Int) < n1 := by omega
        have hk0n : k0 < n1 := by omega
        clear hcq
        go_wp2_with (first
          | (go_at_call 21; refine (HI2.out _ HWx.out).mono ?_; rintro e w2 ⟨v2, rfl, hb, ho⟩; obtain ⟨ya, yc, hvs⟩ := ho.shape; have hol := HOL.out; rw [hol] at hvs; clear hol; subst hvs; have HYG : Hid (∀ q, (Value.slice ya ol yc).ownBlock = some q → (wr.alloc (.cells #[.string nm, .int .i64 pm, .slice va vn vc, .slice aa an ac] 77)).heap.size ≤ q) := fun q e => (World.ownsRow.lt ho q e).1; have hoo : w2.ownsRow W0.heap.size 47 3 (.slice ya ol yc) ol (insR Lx) := (by have := OwnI.lower ho HBX.out.size; unfold OwnI at this; rwa [HOL.out] at this); have HB2 : Hid (Below W0.heap.size W0 w2) := HBX.out.trans (hb.mono HBX.out.size); have HO2 := Lib.hid (own_hold9 HOX.out hb); have HR2 : Hid (∀ i, i < (k0 + 1) → OwnI W0.heap.size w2 (ls i) (p.code.getD i default).l) := fun i hi => OwnI.stay (HRX.out i hi) hb; have HSX2 := Lib.hid ((hb.block _ (lt_of_heap HSX.out)).trans HSX.out); have HOA := Lib.hid (hoo.alloc (.cells #[.int .i64 1, .int .i64 0, .int .i64 0, .int .i64 18, .int .i64 0, .int .i64 0] 47)); have HC := Lib.hid (cell6_new w2 [.int .i64 1, .int .i64 0, .int .i64 0, .int .i64 18, .int .i64 0, .int .i64 0] 47); have HBA2 : Hid (Below W0.heap.size W0 (w2.alloc (.cells #[.int .i64 1, .int .i64 0, .int .i64 0, .int .i64 18, .int .i64 0, .int .i64 0] 47))) := HB2.out.alloc HB2.out.size _; clear hb ho hoo)
          | (at_builtin; refine wpList_append_own _ rfl _ _ 42 rfl W0.heap.size 47 iT (.agg #[.int .i64 0, .int .i64 0, .int .i64 0]) 3 24 Tryz.underlying42 hi hz0 hz1 hz2 rfl (by decide) _ _ _ rfl HOA.out ⟨w2.heap.size, 0, none⟩ 2 2 [.int .i64 1, .int .i64 0, .int .i64 0, .int .i64 18, .int .i64 0, .int .i64 0] rfl rfl HC.out (by simp [Value.oneCell']) (by unfold maxLen; omega) (by omega) HBA2.out.size ?_; intro v3 w3 hown' hgrow _; obtain ⟨g3, cap3, rfl⟩ := ownsRow_succ' hown'; have HO3 := Lib.hid hown'; have HB3 : Hid (Below W0.heap.size W0 w3) := below_own9 HBA2.out HBA2.out.size HOA.out hgrow; have HF3 := Lib.hid (own_other (HO2.out.alloc (.cells #[.int .i64 1, .int .i64 0, .int .i64 0, .int .i64 18, .int .i64 0, .int .i64 0] 47)) HOA.out (by decide) hgrow); have HR3 : Hid (∀ i, i < (k0 + 1) → OwnI W0.heap.size w3 (ls i) (p.code.getD i default).l) := fun i hi => OwnI.apart (World.ownsRow.alloc (HR2.out i hi) _) hgrow (fun q e h => by have h1 := HRlt.out i hi q h; have h2 := HYG.out q e; omega); have HSX3 := Lib.hid (own_of_grown9 ((Below.heap_alloc _ _ _ (lt_of_heap HSX2.out)).trans HSX2.out) hgrow (own_ne_box HOA.out ((Below.heap_alloc _ _ _ (lt_of_heap HSX2.out)).trans HSX2.out) (by decide))); have u0 : w3.cell? ⟨wr.heap.size, 0, none⟩ = some (.string nm) := cell_of_heap HSX3.out 0; have u1 : w3.cell? ⟨wr.heap.size, 1, none⟩ = some (.int .i64 pm) := cell_of_heap HSX3.out 1; have u2 : w3.cell? ⟨wr.heap.size, 2, none⟩ = some (.slice va vn vc) := cell_of_heap HSX3.out 2; have u3 : w3.cell? ⟨wr.heap.size, 3, none⟩ = some (.slice aa an ac) := cell_of_heap HSX3.out 3; have HOF := Lib.hid (HF3.out.alloc (.cells #[.string nm, .int .i64 pm, .int .i64 vn, .int .i64 an, .slice (some ⟨g3, 0, none⟩) (ol + 2) cap3] 44)); have HCF := Lib.hid (cell6_new w3 [.string nm, .int .i64 pm, .int .i64 vn, .int .i64 an, .slice (some ⟨g3, 0, none⟩) (ol + 2) cap3] 44); have HBF : Hid (Below W0.heap.size W0 (w3.alloc (.cells #[.string nm, .int .i64 pm, .int .i64 vn, .int .i64 an, .slice (some ⟨g3, 0, none⟩) (ol + 2) cap3] 44))) := HB3.out.alloc HB3.out.size _; clear hown' hgrow HOA)
          | (at_builtin; refine wpList_append_own _ rfl _ _ 37 rfl W0.heap.size 44 iF (.agg #[.string ⟨#[]⟩, .int .i64 0, .int .i64 0, .int .i64 0, .slice none 0 0]) 5 64 Tryz.underlying37 hF hF0 hF1 hF2 rfl (by decide) _ _ _ rfl HOF.out ⟨w3.heap.size, 0, none⟩ 1 1 [.string nm, .int .i64 pm, .int .i64 vn, .int .i64 an, .slice (some ⟨g3, 0, none⟩) (ol + 2) cap3] rfl rfl HCF.out (by simp [Value.oneCell']) (by unfold maxLen; omega) (by omega) HBF.out.size ?_; intro v' w5 hown' hgrow _; have HO5 := Lib.hid hown'; have HG5 := Lib.hid hgrow; have HB5 : Hid (Below W0.heap.size W0 w5) := below_own9 HBF.out HBF.out.size HOF.out hgrow; clear hown' hgrow))
        have HFN : Hid (FI W0 p.code ((k0 + 1) + 1) _ _) := FI.next (x := .slice (some ⟨g3, 0, none⟩) (ol + 2) cap3) HB5.out HOF.out (fun i hi => World.ownsRow.alloc (HR3.out i hi) _) (World.ownsRow.alloc (by have h := HO3.out; rw [HVV.out.1, List.length_append, insR_append, HOL.out]; exact h) _) HG5.out (by rw [HVV.out.2.1, HVV.out.2.2.1, HVV.out.2.2.2.1, HVV.out.2.2.2.2]; exact HO5.out)
        go_roundw
        case rel => exact ⟨(k0 + 1) + 1, by go_num, by omega, HFN⟩
        case measure => simp [intOf]; try omega
    · obtain rfl : k = n1 + 1 := by omega
      have hL : p.code.length = n1 + 1 := p.code_len9.trans HNL.out
      have hv : ∀ {v : Value}, FI W0 p.code (n1 + 1) v wr → VSl wr v p.code := fun h => by
        rw [← hL] at h
        refine h.vsl (fun i hi => ?_)
        have hia : i < p.all.length := by rw [p.code_len9] at hi; exact hi
        rw [p.code_at hia]
        have hma : p.all.getD i default ∈ p.all := by rw [List.getD_eq_getElem?_getD, List.getElem?_eq_getElem hia]; exact List.getElem_mem _
        obtain ⟨Lx, hLx, hLl, _⟩ := FT.code_ok H0.out HN.out hma
        show ((p.all.getD i default).code p).length ≤ _
        rw [hLx]; simp; omega
      have HV := Lib.hid (hv HQ.out)
      clear hL hv
      go_wp2
      go_ret
      exact ⟨_, rfl, HWr.out, HV.out⟩
end Go.Proofs.YthjjcmmonjajhaaGreatDoor
