/- scope.Resolve: the names of a program. -/
import Derived.Test.YthjjcmmonjajhaaGreatDoorScopePure
namespace Go.Proofs.YthjjcmmonjajhaaGreatDoor
open Go.RowKit Go.Sort Go.Maps
set_option linter.unusedVariables false

set_option maxHeartbeats 8000000 in
set_option maxRecDepth 1000000 in
theorem resolve_bad (a1 a2 : Option Addr) (n1 n2 k1 k2 : Nat) (p : PT) (w : World) (ht : Tab w) (hp : PR w (.slice a1 n1 k1) (.slice a2 n2 k2) p) (r : Int) (hr : p.right = r) (h0 : r ≠ 0) :
    Calls Tryz.prog 11 #[.agg #[.slice a1 n1 k1, .slice a2 n2 k2]] w fun e w' => e = .returned (.tuple #[.slice none 0 0, .int .i64 r]) ∧ Below w.heap.size w w' := by
  have HT := Lib.hid ht
  have HP := Lib.hid hp
  have HR := Lib.hid hr
  have hne : (r != 0) = true := by simpa using h0
  clear ht hp hr h0
  have HB := hb_start w
  go_enter Tryz.func11, Tryz.ntmps11
  go_wp2_with (go_at_call 6; refine (right_r a1 a2 n1 n2 k1 k2 p _ (Tab.at HT (hb_alloc HB _)) (HP.out.stay (hb_alloc HB (.cells #[.slice a1 n1 k1, .slice a2 n2 k2] 25)).out) _ HR.out).mono ?_; rintro e w2 ⟨rfl, hb⟩; have HB2 : Hid (Below w.heap.size w w2) := hb_step (hb_alloc HB _) hb; clear hb)
  go_ret2
  exact ⟨rfl, HB2.out⟩

theorem TSl.at9 {w : World} {a : Option Addr} {n cap : Nat} {l : List ByteArray} (h : TSl w (.slice a n cap) l) (k : Nat) (hk : k < n) : ∃ b off, a = some ⟨b, off, none⟩ ∧ w.cell? ⟨b, off + k, none⟩ = some (.string (l.getD k ByteArray.empty)) := by
  generalize hv : Value.slice a n cap = v at h
  cases h with
  | mk a' b off cap' l' ha hc hm hcell => cases hv; exact ⟨b, off, ha (by omega), hcell k hk⟩
def RS.w0 {w3 wr : World} {fs l : List FT} {k : Nat} {lv : Value} (_ : RS w3 fs l k lv wr) : World := wr
/-- What the first loop has come to: how many parameters the first k functions have. -/
structure L1 (wm : World) (pm : Nat) (fs : List FT) (k : Nat) (wr : World) : Prop where
  below : Below pm wm wr
  kept : ∀ q o, wm.heap[q]? = some o → q ≠ pm → wr.heap[q]? = some o
  got : ∃ D, wr.ownsMap Tryz.prog 9 (plainElem Tryz.prog 3) pm k D ∧ ParIs D (fs.take k)
  fresh : ∀ j, j < k → paramOf (fs.take j) (fs.getD j default).name = none
theorem L1.step {wm wr w1 : World} {pm : Nat} {fs : List FT} {k : Nat} {o : Obj} (h : L1 wm pm fs k wr) (hk : k < fs.length) (hn : paramOf (fs.take k) (fs.getD k default).name = none) (hpm : pm ≤ wm.heap.size)
    {D : DataW Unit} (h4 : ParIs D (fs.take k)) (q1 : w1.ownsMap Tryz.prog 9 (plainElem Tryz.prog 3) pm (k + 1) (D.put (keyL (fs.getD k default).name) (litN (fs.getD k default).params.length))) (q2 : (wr.alloc o).grownBy w1 (some pm)) : L1 wm pm fs (k + 1) w1 := by
  obtain ⟨h1, h2, _, h5⟩ := h
  have hs : pm ≤ wr.heap.size := Nat.le_trans hpm h1.size
  refine ⟨(h1.alloc hs o).grown q2 (by simp; omega) (fun r e => by cases e; exact Nat.le_refl _), ?_, ⟨_, q1, ?_⟩, ?_⟩
  · intro q x hx hq
    have hx' := h2 q x hx hq
    rw [q2.block q (by have := lt_of_heap hx'; simp; omega) (fun e => hq (by cases e; rfl)), Below.heap_alloc wr o q (lt_of_heap hx')]
    exact hx'
  · rw [take_next fs default k hk]
    exact h4.put _ hn
  · intro j hj
    rcases Nat.lt_or_ge j k with h | h
    · exact h5 j h
    · obtain rfl : j = k := by omega
      exact hn

set_option maxHeartbeats 8000000 in
set_option maxRecDepth 1000000 in
theorem resolve_ok (a1 a2 : Option Addr) (n1 n2 k1 k2 : Nat) (p : PT) (w : World) (ht : Tab w) (hp : PR w (.slice a1 n1 k1) (.slice a2 n2 k2) p) (h0 : p.right = 0) (hN : p.nodes.length ≤ 4000000) (r : Int) (hr : p.resolve = r) :
    Calls Tryz.prog 11 #[.agg #[.slice a1 n1 k1, .slice a2 n2 k2]] w fun e w' => ∃ v, e = .returned (.tuple #[v, .int .i64 r]) ∧ Below w.heap.size w w' ∧ (r = 0 → CSl w' v p.scopes) ∧ (r ≠ 0 → v = .slice none 0 0) := by
  obtain ⟨hl33, hok⟩ := PT.all_ok h0 hN
  obtain ⟨b, off, ff, gg, hfr⟩ := hp.1.rw9
  have HT := Lib.hid ht
  have HP := Lib.hid hp
  have H0 := Lib.hid h0
  have HR := Lib.hid hr
  have HOK := Lib.hid hok
  have HFR := Lib.hid hfr
  have hn32 : n1 ≤ 32 := by have := hfr.len; unfold PT.all at hl33; simp at hl33; omega
  have H32 := Lib.hid hn32
  have HLL : Hid (p.funcs.length = n1 ∧ p.all.length = 1 + n1) := ⟨hfr.len.symm, by have := hfr.len; unfold PT.all; simp; omega⟩
  clear ht hp hr h0 hN hok hfr hl33 hn32
  have hmm := @run_makeMap Tryz.prog
  have HB := hb_start w
  go_enter Tryz.func11, Tryz.ntmps11
  go_upto_region 5 with (go_at_call 6; refine (right_r a1 a2 n1 n2 k1 k2 p _ (Tab.at HT (hb_alloc HB _)) (HP.out.stay (hb_alloc HB (.cells #[.slice a1 n1 k1, .slice a2 n2 k2] 25)).out) _ H0.out).mono ?_; rintro e w2 ⟨rfl, hb⟩; have HB2 : Hid (Below w.heap.size w w2) := hb_step (hb_alloc HB _) hb; have HX2 := Lib.hid ((hb.block w.heap.size (lt_of_heap (heap_alloc_new w _))).trans (heap_alloc_new w (.cells #[.slice a1 n1 k1, .slice a2 n2 k2] 25))); clear hb)
  -- the map, and its variable
  have hsz : ((w2.alloc (.map #[] 0)).alloc (.cells #[.map (some w2.heap.size)] 91)).heap.size = w2.heap.size + 2 := by simp
  have HBm : Hid (Below w.heap.size w ((w2.alloc (.map #[] 0)).alloc (.cells #[.map (some w2.heap.size)] 91))) := (HB2.out.alloc HB2.out.size _).alloc (by have := HB2.out.size; simp; omega) _
  have HXm : Hid (((w2.alloc (.map #[] 0)).alloc (.cells #[.map (some w2.heap.size)] 91)).heap[w.heap.size]? = some (.cells #[.slice a1 n1 k1, .slice a2 n2 k2] 25 (0, 0))) :=
    (Below.heap_alloc _ _ _ (by have := lt_of_heap HX2.out; simp; omega)).trans ((Below.heap_alloc _ _ _ (lt_of_heap HX2.out)).trans HX2.out)
  have HOm : Hid (((w2.alloc (.map #[] 0)).alloc (.cells #[.map (some w2.heap.size)] 91)).ownsMap Tryz.prog 9 (plainElem Tryz.prog 3) w2.heap.size 0 (.map [] : DataW Unit)) :=
    (World.ownsMap_made (H := Unit) w2 Tryz.prog 9 (plainElem Tryz.prog 3)).alloc _
  have HVm : Hid (((w2.alloc (.map #[] 0)).alloc (.cells #[.map (some w2.heap.size)] 91)).heap[w2.heap.size + 1]? = some (.cells #[.map (some w2.heap.size)] 91 (0, 0))) := by
    have := heap_alloc_new (w2.alloc (.map #[] 0)) (.cells #[.map (some w2.heap.size)] 91)
    rwa [World.size_alloc] at this
  have HNm : Hid (w.heap.size ≠ w2.heap.size ∧ w.heap.size < w2.heap.size) := by have := lt_of_heap HX2.out; exact ⟨by omega, this⟩
  obtain ⟨wm, hwm⟩ : ∃ z, ((w2.alloc (.map #[] 0)).alloc (.cells #[.map (some w2.heap.size)] 91)) = z := ⟨_, rfl⟩
  rw [hwm] at hsz HBm HXm HOm HVm ⊢
  generalize hpm : w2.heap.size = pm at hsz HBm HXm HOm HVm HNm ⊢
  have HSm := Lib.hid hsz
  clear hwm hpm hsz HX2
  have c0 : wm.cell? ⟨w.heap.size, 0, none⟩ = some (.slice a1 n1 k1) := cell_of_heap HXm.out 0
  go_wp2_with fail
  go_loopw [27] (fun i wr => ∃ k : Nat, i = .int .i64 k ∧ k ≤ n1 ∧ Hid (L1 wm pm p.funcs k wr)) (fun i _ => n1 - (intOf i).toNat)
  case atStart => exact ⟨0, rfl, by omega, Below.refl _ _, fun _ _ h _ => h, ⟨_, HOm.out, parIs_empty⟩, fun j hj => absurd hj (by omega)⟩
  case round =>
    obtain ⟨k, rfl, hk, HL⟩ := hrel
    have HBr : Hid (Below w.heap.size w wr) := HBm.out.trans (HL.out.below.mono (by have := HNm.out; omega))
    have HXr := Lib.hid (HL.out.kept _ _ HXm.out HNm.out.1)
    have HVr := Lib.hid (HL.out.kept _ _ HVm.out (by omega))
    have hn32 := H32.out
    by_cases hlt : k < n1
    · as_aux_lemma =>
      obtain rfl := HFR.out.at_ (by omega)
      obtain ⟨r0, r1, r2⟩ := fcellC_at p.funcs ff gg k
      have e0 := HFR.out.cell (k * 3) (by omega)
      have e1 := HFR.out.cell (k * 3 + 1) (by omega)
      have e2 := HFR.out.cell (k * 3 + 2) (by omega)
      rw [r0] at e0
      rw [r1, ← Nat.add_assoc] at e1
      rw [r2, ← Nat.add_assoc] at e2
      obtain ⟨pa, pc, hps, _, _⟩ := (HFR.out.ts k hlt).shape9
      obtain ⟨ba, bc, hbs⟩ := (HFR.out.bs k hlt).shape0'
      rw [hps] at e1
      rw [hbs] at e2
      have hok : (p.funcs.getD k default).ok 4000000 := by
        have := PT.all_at (k + 1) (by rw [HLL.out.2]; omega) HOK.out
        simpa [PT.all] using this
      have hz : b < w.heap.size := lt_of_cell e0
      replace e0 := (HBr.out.cell (p := ⟨b, off + k * 3, none⟩) hz).trans e0
      replace e1 := (HBr.out.cell (p := ⟨b, off + k * 3 + 1, none⟩) hz).trans e1
      replace e2 := (HBr.out.cell (p := ⟨b, off + k * 3 + 2, none⟩) hz).trans e2
      obtain ⟨s, hs⟩ : ∃ s, (p.funcs.getD k default).name = s := ⟨_, rfl⟩
      obtain ⟨m, hm⟩ : ∃ m, (p.funcs.getD k default).params.length = m := ⟨_, rfl⟩
      generalize (p.funcs.getD k default).body.length = bl at e2
      have hsn := hok.name
      have hmf := hok.few
      rw [hs] at e0 hsn
      rw [hm] at e1 hmf
      obtain ⟨D, hown, hD⟩ := HL.out.got
      obtain ⟨po, hpo⟩ : ∃ po, paramOf (p.funcs.take k) s = po := ⟨_, rfl⟩
      have HH := Lib.hid (hD.2 s).1
      rw [hpo] at HH
      have HOW := Lib.hid (hown.alloc (.cells #[.string s, .slice pa m pc, .slice ba bl bc] 67))
      have cV : (wr.alloc (.cells #[.string s, .slice pa m pc, .slice ba bl bc] 67)).cell? ⟨pm + 1, 0, none⟩ = some (.map (some pm)) := cell_of_heap ((Below.heap_alloc _ _ _ (lt_of_heap HVr.out)).trans HVr.out) 0
      have HBx : Hid (Below w.heap.size w (wr.alloc (.cells #[.string s, .slice pa m pc, .slice ba bl bc] 67))) := hb_alloc HBr _
      have HD := Lib.hid hD
      have HS := Lib.hid hs
      have HM := Lib.hid hm
      have HMF := Lib.hid hmf
      have HSN := Lib.hid hsn
      have HPO := Lib.hid hpo
      have HLT := Lib.hid hlt
      clear hps hbs hok hown hD hs hm hmf hsn hpo r0 r1 r2
      cases po with
      | some mm =>
        go_wp2_with (at_lookup; refine wpList_lookup_own_ok_int _ rfl _ _ 91 rfl 9 3 .i64 lawStr Tryz.underlying91 Tryz.underlying3 (zeroInt' _) pm k D rfl HOW.out _ _ rfl (WideMaps.keyOf_string_mk Tryz.underlying9 (s := s) (by have := HSN.out; unfold maxLen; omega)) ?_; intro c hat hwc; rw [show Maps.has D (.string s.data.toList) = true from HH.out]; clear hat hwc)
        obtain rfl : r = 4 := by
          rw [← HR.out]
          unfold PT.resolve
          rw [if_pos H0.out, if_pos (dup_true (k := k) (by rw [HLL.out.1]; exact HLT.out) (by rw [HS.out, HPO.out]; rfl))]
        go_ret2
        exact ⟨_, rfl, HBx.out, fun h => absurd h (by decide), fun _ => rfl⟩
      | none =>
        go_wp2_with (first
          | (at_lookup; refine wpList_lookup_own_ok_int _ rfl _ _ 91 rfl 9 3 .i64 lawStr Tryz.underlying91 Tryz.underlying3 (zeroInt' _) pm k D rfl HOW.out _ _ rfl (WideMaps.keyOf_string_mk Tryz.underlying9 (s := s) (by have := HSN.out; unfold maxLen; omega)) ?_; intro c hat hwc; rw [show Maps.has D (.string s.data.toList) = false from HH.out]; clear hat hwc)
          | (at_mapUpdate; refine wpList_mapUpdate_own _ rfl _ _ _ 91 rfl 9 3 lawStr Tryz.underlying91 (plainElem Tryz.prog 3) pm k D rfl HOW.out (by have := H32.out; unfold maxLen; omega) _ _ _ rfl rfl (WideMaps.keyOf_string_mk Tryz.underlying9 (s := s) (by have := HSN.out; unfold maxLen; omega)) (litN m) [] (litN_plain m (by have := HMF.out; omega)) ?_
             intro w1 hown1 hgrow1
             have HO1 := Lib.hid hown1
             have HG1 := Lib.hid hgrow1
             clear hown1 hgrow1))
        go_roundw
        case rel => exact ⟨k + 1, by go_num, by omega, HL.out.step (by rw [HLL.out.1]; exact HLT.out) (by rw [HS.out]; exact HPO.out) (by have := HSm.out; omega) HD.out (by rw [HS.out, HM.out]; exact HO1.out) HG1.out⟩
        case measure => simp [intOf]; omega
    · obtain rfl : k = n1 := by omega
      have hpa : PmAt wr (pm + 1) pm k p.funcs := by
        obtain ⟨D, h1, h2⟩ := HL.out.got
        refine ⟨cell_of_heap HVr.out 0, D, h1, ?_⟩
        rwa [List.take_of_length_le (by rw [HLL.out.1]; exact Nat.le_refl _)] at h2
      have HPA := Lib.hid hpa
      have HDF : Hid (dupB p.funcs = false) := dup_false (fun j hj => HL.out.fresh j (by rw [← HLL.out.1]; exact hj))
      have c0 : wr.cell? ⟨w.heap.size, 0, none⟩ = some (.slice a1 k k1) := cell_of_heap HXr.out 0
      have c1 : wr.cell? ⟨w.heap.size, 1, none⟩ = some (.slice a2 n2 k2) := cell_of_heap HXr.out 1
      have c0' : (wr.alloc (.cells #[.string ⟨#[]⟩, .slice none 0 0, .slice a2 n2 k2] 67)).cell? ⟨w.heap.size, 0, none⟩ = some (.slice a1 k k1) := cell_of_heap ((Below.heap_alloc _ _ _ (lt_of_heap HXr.out)).trans HXr.out) 0
      have HO0 : Hid ((wr.alloc (.cells #[.string ⟨#[]⟩, .slice none 0 0, .slice a2 n2 k2] 67)).ownsRow wr.heap.size 67 3 (.slice (some ⟨wr.heap.size, 0, none⟩) 1 1) 1 [.string ByteArray.empty, .slice none 0 0, .slice a2 n2 k2]) :=
        ⟨rfl, .inr ⟨_, 1, _, rfl, Nat.le_refl _, heap_alloc_new _ _, Nat.le_refl _, by decide, rfl, rfl⟩⟩
      have HBy : Hid (Below w.heap.size w (wr.alloc (.cells #[.string ⟨#[]⟩, .slice none 0 0, .slice a2 n2 k2] 67))) := hb_alloc HBr _
      have HBz : Hid (Below wr.heap.size wr (wr.alloc (.cells #[.string ⟨#[]⟩, .slice none 0 0, .slice a2 n2 k2] 67))) := (Below.refl _ _).alloc (Nat.le_refl _) _
      have HCC : Hid (∀ j, j < k * 3 → (wr.alloc (.cells #[.string ⟨#[]⟩, .slice none 0 0, .slice a2 n2 k2] 67)).cell? ⟨b, off + j, none⟩ = some (fcellC p.funcs ff gg j)) := fun j hj => by
        have := HFR.out.cell j hj
        exact (HBy.out.cell (p := ⟨b, off + j, none⟩) (lt_of_cell this)).trans this
      obtain ⟨iF, hiF, hF0, hF1, hF2⟩ := info_parts infoFu
      clear hpa hlt
      go_wp2_with (at_builtin; refine wpList_own_more _ rfl _ _ 22 rfl 67 iF (.agg #[.string ⟨#[]⟩, .slice none 0 0, .slice none 0 0]) 3 64 Tryz.underlying22 hiF hF0 hF1 hF2 rfl (by decide) wr.heap.size wr.heap.size 1 1 _ HO0.out rfl a1 b off k k1 rfl HFR.out.at_ (by have := H32.out; unfold maxLen; omega) (by have := H32.out; omega) (fcellC p.funcs ff gg) HCC.out HFR.out.one (by rw [World.size_alloc]; omega) ?_
                   intro v' w3 hown hgrow
                   have HO3 := Lib.hid hown
                   have HB3 : Hid (Below w.heap.size w w3) := HBy.out.grown hgrow (by have := HBy.out.size; omega) (fun r e => by cases e; exact HBr.out.size)
                   have HP3 := Lib.hid (HPA.out.stay (HBz.out.grown hgrow (by rw [World.size_alloc]; omega) (fun r e => by cases e; exact Nat.le_refl _)))
                   have HF3 := Lib.hid (all_fsl HFR.out HB3.out HP.out.2 hown)
                   obtain ⟨va, vc, rfl⟩ := own_shape hown
                   clear hown hgrow)
      have HNL : Hid (p.all.length = 1 + k) := HLL.out.2
      obtain ⟨b3, off3, f3, g3, hfr3⟩ := HF3.out.rw9
      have HFW := Lib.hid hfr3
      have HW3 : Hid (w.heap.size ≤ w3.heap.size) := HB3.out.size
      clear HO3 hfr3 HCC HBz HBy HO0 c0 c1 c0' HBr HXr HVr HL hk HPA HOm HXm HVm HBm HNm HSm HB2 HB hmm hiF hF0 hF1 hF2
      go_loopw [55, 11, 12] (fun i lv fl wr2 => ∃ (k' : Nat) (la : Option Addr) (lc : Nat) (fl0 : Bool), i = .int .i64 k' ∧ k' ≤ 1 + k ∧ lv = .slice la k' lc ∧ fl = .bool fl0 ∧ Hid (RS w3 p.funcs p.all k' (.slice la k' lc) wr2) ∧ Hid (fl0 = (p.all.take k').any (fun f => (f.found p.funcs).full)) ∧ Hid (∀ j, j < k' → ((p.all.getD j default).found p.funcs).fits = true)) (fun i _ _ _ => 1 + k - (intOf i).toNat)
      case atStart => exact ⟨0, none, 0, false, rfl, by omega, rfl, rfl, RS.start _ _ _, rfl, fun j hj => absurd hj (by omega)⟩
      case round =>
        obtain ⟨j, la, lc, fl, rfl, hj, rfl, rfl, HRS, HFL, HFI⟩ := hrel
        by_cases hlt : j < 1 + k
        · obtain rfl := HFW.out.at_ (by omega)
          obtain ⟨r0, r1, r2⟩ := fcellC_at p.all f3 g3 j
          have e0 := HFW.out.cell (j * 3) (by omega)
          have e1 := HFW.out.cell (j * 3 + 1) (by omega)
          have e2 := HFW.out.cell (j * 3 + 2) (by omega)
          rw [r0] at e0
          rw [r1, ← Nat.add_assoc] at e1
          rw [r2, ← Nat.add_assoc] at e2
          have ht := HFW.out.ts j hlt
          have hb := HFW.out.bs j hlt
          have hok : (p.all.getD j default).ok 4000000 := PT.all_at j (by rw [HNL.out]; exact hlt) HOK.out
          obtain ⟨pa, pc, hps, hpl1, hpl2⟩ := ht.shape9
          obtain ⟨ba, bc, hbs⟩ := hb.shape0'
          rw [hps] at e1 ht
          rw [hbs] at e2 hb
          have hz : b3 < w3.heap.size := lt_of_cell e0
          replace e0 := (HRS.out.below.cell (p := ⟨b3, off3 + j * 3, none⟩) hz).trans e0
          replace e1 := (HRS.out.below.cell (p := ⟨b3, off3 + j * 3 + 1, none⟩) hz).trans e1
          replace e2 := (HRS.out.below.cell (p := ⟨b3, off3 + j * 3 + 2, none⟩) hz).trans e2
          obtain ⟨x, hx⟩ : ∃ x, p.all.getD j default = x := ⟨_, rfl⟩
          have HX := Lib.hid hx
          rw [hx] at e0 e1 e2 ht hb hok hpl1
          obtain ⟨s, ps, bs⟩ := x
          simp only at e0 e1 e2 ht hb hpl1
          have HTS := Lib.hid ht
          have HBS := Lib.hid hb
          have HOKX := Lib.hid hok
          have HLT := Lib.hid hlt
          have hpl8 : ps.length ≤ 8 := hok.few
          clear ht hb hok hps hbs hx r0 r1 r2 hz
          have hltI : (j : Int) < 1 + (k : Int) := by omega
          go_upto_region 20 with fail
          have hfd := fd_new (wr.alloc (.cells #[.string s, .slice pa ps.length pc, .slice ba bs.length bc] 67)) (pm + 1)
          have hxb : ((wr.alloc (.cells #[.string s, .slice pa ps.length pc, .slice ba bs.length bc] 67)).alloc (.cells #[.slice none 0 0, .map none, .slice none 0 0, .map none, .slice none 0 0, .map none, .bool false, clV (pm + 1)] 99)).heap[wr.heap.size]? = some (.cells #[.string s, .slice pa ps.length pc, .slice ba bs.length bc] 67 (0, 0)) :=
            (Below.heap_alloc _ _ _ (by rw [World.size_alloc]; omega)).trans (heap_alloc_new _ _)
          have hbw : Below wr.heap.size wr ((wr.alloc (.cells #[.string s, .slice pa ps.length pc, .slice ba bs.length bc] 67)).alloc (.cells #[.slice none 0 0, .map none, .slice none 0 0, .map none, .slice none 0 0, .map none, .bool false, clV (pm + 1)] 99)) := ((Below.refl _ _).alloc (Nat.le_refl _) _).alloc (by rw [World.size_alloc]; omega) _
          have hsz : ((wr.alloc (.cells #[.string s, .slice pa ps.length pc, .slice ba bs.length bc] 67)).alloc (.cells #[.slice none 0 0, .map none, .slice none 0 0, .map none, .slice none 0 0, .map none, .bool false, clV (pm + 1)] 99)).heap.size = wr.heap.size + 2 := by rw [World.size_alloc, World.size_alloc]
          rw [World.size_alloc] at hfd
          have h3r : w3.heap.size ≤ wr.heap.size := HRS.out.below.size
          obtain ⟨W0, hW0⟩ : ∃ z, ((wr.alloc (.cells #[.string s, .slice pa ps.length pc, .slice ba bs.length bc] 67)).alloc (.cells #[.slice none 0 0, .map none, .slice none 0 0, .map none, .slice none 0 0, .map none, .bool false, .func (.func 25) #[] #[.pointer (some ⟨pm + 1, 0, none⟩)]] 99)) = z := ⟨_, rfl⟩
          rw [show ((wr.alloc (.cells #[.string s, .slice pa ps.length pc, .slice ba bs.length bc] 67)).alloc (.cells #[.slice none 0 0, .map none, .slice none 0 0, .map none, .slice none 0 0, .map none, .bool false, clV (pm + 1)] 99)) = W0 from hW0] at hfd hxb hbw hsz
          rw [hW0]
          have HBW : Hid (Below wr.heap.size wr W0) := hbw
          have HB30 : Hid (Below w3.heap.size w3 W0) := HRS.out.below.trans (hbw.mono h3r)
          generalize hxq : wr.heap.size = xb at hfd hxb hsz h3r ⊢
          have HXQ := Lib.hid hxq
          generalize hfb : xb + 1 = fb at hfd ⊢
          have HFD0 := Lib.hid hfd
          have HXB := Lib.hid hxb
          have HFS : Hid (fb ≤ W0.heap.size) := by show _ ≤ _; omega
          have HNX : Hid (xb ≠ fb) := by show _ ≠ _; omega
          have H3F : Hid (w3.heap.size ≤ fb) := by show _ ≤ _; omega
          have HRF : Hid (wr.heap.size ≤ fb) := by show _ ≤ _; omega
          have x1 : W0.cell? ⟨xb, 1, none⟩ = some (.slice pa ps.length pc) := cell_of_heap hxb 1
          clear hW0 hfd hxb hbw hsz h3r hxq hfb
          go_wp2_with fail
          go_loopw [65] (fun i wr3 => ∃ q : Nat, i = .int .i64 q ∧ q ≤ ps.length ∧ Hid (Fk fb fb W0 wr3) ∧ Hid (Fd fb wr3 fb (clV (pm + 1)) ((ps.take q).foldl FS.param FS.init))) (fun i _ => ps.length - (intOf i).toNat)
          case atStart => exact ⟨0, rfl, by omega, Fk.refl _ _ _, HFD0.out⟩
          case round =>
            obtain ⟨q, rfl, hq, HKQ, HFQ⟩ := hrel
            by_cases hqt : q < ps.length
            · as_aux_lemma =>
              obtain ⟨tb, tof, rfl, ec⟩ := HTS.out.at9 q hqt
              have ec := ((HB30.out.trans (HKQ.out.below.mono H3F.out)).cell (p := ⟨tb, tof + q, none⟩) (lt_of_cell ec)).trans ec
              have hT := foldl_take ps FS.init q hqt
              have hs32 : (ps.getD q ByteArray.empty).size ≤ 32 := by
                have := HOKX.out.params (ps.getD q ByteArray.empty)
                refine this ?_
                rw [List.getD_eq_getElem?_getD, List.getElem?_eq_getElem hqt]; exact List.getElem_mem _
              have hle := params_le (ps.take q) FS.init 0 ⟨Nat.le_refl _, Nat.le_refl _, Nat.le_refl _⟩
              have hl8 : (ps.take q).length ≤ 8 := by rw [List.length_take]; omega
              generalize ps.getD q ByteArray.empty = sq at ec hT hs32
              generalize (ps.take q).foldl FS.param FS.init = st at HFQ hT hle
              have hvl : st.vars.length ≤ 4194304 := by have := hle.1; omega
              obtain ⟨b1, hb1⟩ : ∃ b, memB st.vars sq = b := ⟨_, rfl⟩
              have HM := Lib.hid hb1
              have HT := Lib.hid hT
              have HS32 := Lib.hid hs32
              have HVL := Lib.hid hvl
              clear hT hs32 hle hl8 hvl hb1
              cases b1
              all_goals
                go_wp2_with (go_at_call 26; refine (fadd0 fb fb (clV (pm + 1)) st sq HS32.out _ HFQ.out (Nat.le_trans HFS.out HKQ.out.size) HVL.out).mono ?_; rintro e w4 ⟨rfl, hk4, hf4⟩; rw [HM.out]; have HK4 := Lib.hid hk4; have HF4 := Lib.hid hf4; have d6 : w4.cell? ⟨fb, 6, none⟩ = some (.bool st.wrong) := hf4.cells.1; have d6f := hf4.cells.2.2; clear hk4 hf4)
                go_roundw
                case rel => exact ⟨q + 1, by go_num, by omega, HKQ.out.trans (HK4.out.trans (Fk.set (Nat.le_refl _) _)), by rw [HT.out, show FS.param st sq = { st with vars := addL st.vars sq, wrong := memB st.vars sq || st.wrong } from rfl, HM.out]; exact HF4.out.set _⟩
                case measure => simp [intOf]; omega
            · obtain rfl : q = ps.length := by omega
              rw [List.take_length] at HFQ
              have x2 : wr.cell? ⟨xb, 2, none⟩ = some (.slice ba bs.length bc) := cell_of_heap (HKQ.out.kept xb _ HXB.out HNX.out (fun cs fr e => by injection e with _ h _; exact absurd h (by decide)) (fun es c e => by cases e)) 2
              have hle := params_le ps FS.init 0 ⟨Nat.le_refl _, Nat.le_refl _, Nat.le_refl _⟩
              have HG : Hid (Gathers 27 w3 fb fb (pm + 1) (.slice ba bs.length bc) (ps.foldl FS.param FS.init) (FT.found p.funcs ⟨s, ps, bs⟩)) :=
                fstmts_in w3 HBS.out HOKX.out.body fb fb (pm + 1) pm k p.funcs _ (0 + ps.length) H3F.out HP3.out hle (by have := HOKX.out.nodes; simp only at this; omega)
              have hsh := FT.found_sh HOKX.out p.funcs
              obtain ⟨fd, hfd⟩ : ∃ st, FT.found p.funcs ⟨s, ps, bs⟩ = st := ⟨_, rfl⟩
              rw [hfd] at HG hsh
              have HFD := Lib.hid hfd
              have HSH := Lib.hid hsh
              obtain ⟨qf, hqf⟩ : ∃ b, fd.fits = b := ⟨_, rfl⟩
              have HQF := Lib.hid hqf
              clear hle hsh hfd hqf
              go_wp2_with fail
              refine (HG.out _ (HB30.out.trans (HKQ.out.below.mono H3F.out)) HFQ.out (Nat.le_trans HFS.out HKQ.out.size)).mono ?_
              rintro e w5 ⟨rfl, hk5, hf5⟩
              have HK5 := Lib.hid (HKQ.out.trans hk5)
              have HF5 := Lib.hid hf5
              clear hk5 hf5 x1 x2 HG
              go_wp2_with fail
              refine (ffits_r fb fb (clV (pm + 1)) fd _ HF5.out HSH.out.2 _ HQF.out).mono ?_
              rintro e w6 ⟨rfl, hb6⟩
              have HK6 : Hid (Fk fb fb W0 w6) := HK5.out.trans (Fk.of_below (Nat.le_trans HFS.out HK5.out.size) hb6)
              have HF6 := Lib.hid (HF5.out.stay hb6)
              have HB36 : Hid (Below w3.heap.size w3 w6) := HB30.out.trans (HK6.out.below.mono H3F.out)
              have HB6 : Hid (Below w.heap.size w w6) := HB3.out.trans (HB36.out.mono HW3.out)
              clear hb6
              cases qf with
              | false => as_aux_lemma =>
                go_wp2_with fail
                obtain rfl : r = 4 := by
                  rw [← HR.out]
                  unfold PT.resolve
                  rw [if_pos H0.out, HDF.out, if_neg (by decide), if_pos (any_true default j (by rw [HNL.out]; exact HLT.out) (by rw [HX.out, HFD.out, HQF.out]; rfl))]
                go_ret2
                exact ⟨_, rfl, HB6.out, fun h => absurd h (by decide), fun _ => rfl⟩
              | true =>
                obtain ⟨_, l0, m0, l1, m1, l2, m2, hbx, ⟨n1', n2', n3'⟩, _⟩ := HF6.out
                have HOV := Lib.hid n1'.row
                have HOA := Lib.hid n2'.row
                obtain ⟨va0, vc0, rfl⟩ := own_shape n1'.row
                obtain ⟨aa0, ac0, rfl⟩ := own_shape n2'.row
                have HY := Lib.hid hbx
                have HXX := Lib.hid (HK6.out.kept xb _ HXB.out HNX.out (fun cs fr e => by injection e with _ h _; exact absurd h (by decide)) (fun es c e => by cases e))
                have y0 : w6.cell? ⟨fb, 0, none⟩ = some (.slice va0 fd.vars.length vc0) := cell_of_heap hbx 0
                have y2 : w6.cell? ⟨fb, 2, none⟩ = some (.slice aa0 fd.arrays.length ac0) := cell_of_heap hbx 2
                have z0 : w6.cell? ⟨xb, 0, none⟩ = some (.string s) := cell_of_heap HXX.out 0
                have z1 : w6.cell? ⟨xb, 1, none⟩ = some (.slice pa ps.length pc) := cell_of_heap HXX.out 1
                have HZ := Lib.hid (And.intro y0 (And.intro y2 (And.intro z0 z1)))
                have HBRW : Hid (Below (RS.w0 HRS.out).heap.size (RS.w0 HRS.out) w6) := HBW.out.trans (HK6.out.below.mono HRF.out)
                clear hbx n1' n2' n3'
                obtain ⟨nv, hnv⟩ : ∃ n, fd.vars.length = n := ⟨_, rfl⟩
                obtain ⟨na, hna⟩ : ∃ n, fd.arrays.length = n := ⟨_, rfl⟩
                have HNV := Lib.hid hnv
                have HNA := Lib.hid hna
                rw [hnv] at HOV y0 HZ
                rw [hna] at HOA y2 HZ
                clear hnv hna
                have hcs : fl = true ∨ (fl = false ∧ 64 < nv) ∨ (fl = false ∧ ¬ 64 < nv ∧ 64 < na) ∨ (fl = false ∧ ¬ 64 < nv ∧ ¬ 64 < na) := by
                  cases fl
                  · by_cases h1 : 64 < nv <;> by_cases h2 : 64 < na <;> simp [h1, h2]
                  · exact .inl rfl
                rcases hcs with rfl | ⟨rfl, hv⟩ | ⟨rfl, hv, ha⟩ | ⟨rfl, hv, ha⟩
                · as_aux_lemma =>
                  have hlc : (ps.length : Int) ≤ 9223372036854775807 := by omega
                  go_upto_region 29 with fail
                  clear y0 y2 z0 z1
                  refine region_flow2 rfl 18 rfl (by decide +kernel) (by decide +kernel) [111, 112, 113, 114, 115, 116, 117, 118, 119, 120, 121, 122, 123, 124, 125, 126, 127, 128] (by decide +kernel) rfl (by decide) (by simp) (fun w w' => Below w.heap.size w w') (fun w => Below w6.heap.size w6 w)
                    (PhiAt 17 (fun v w => ∃ g, v = .slice (some ⟨g, 0, none⟩) 1 1 ∧ w.heap[g]? = some (.cells #[.string s, .int .i64 ps.length, .slice va0 nv vc0, .slice aa0 na ac0] 61 (0, 0))) [.slice la j lc, .pointer (some ⟨xb, 0, none⟩), .string s, .pointer (some ⟨xb, 1, none⟩), .slice pa ps.length pc, .int .i64 ps.length, .pointer (some ⟨fb, 0, none⟩), .pointer (some ⟨fb, 0, none⟩), .pointer (some ⟨fb, 0, none⟩), .pointer (some ⟨fb, 0, none⟩), .slice va0 nv vc0, .pointer (some ⟨fb, 0, none⟩), .pointer (some ⟨fb, 0, none⟩), .pointer (some ⟨fb, 2, none⟩), .pointer (some ⟨fb, 2, none⟩), .slice aa0 na ac0, .agg #[.string s, .int .i64 ps.length, .slice va0 nv vc0, .slice aa0 na ac0], undef]) (fun j v w w' hS hh => hh.mono (fun h => (Exists.elim h fun g hg => ⟨g, hg.1, (hS.block g (lt_of_heap hg.2)).trans hg.2⟩))) ?hr29 ?hs29 ?hl29
                  case hs29 =>
                    intro ix hix a wx hR hout hdep
                    have hix' : ix = 0 ∨ ix = 1 ∨ ix = 2 ∨ ix = 3 ∨ ix = 4 ∨ ix = 5 ∨ ix = 6 ∨ ix = 7 ∨ ix = 8 ∨ ix = 9 ∨ ix = 10 ∨ ix = 11 ∨ ix = 12 ∨ ix = 13 ∨ ix = 14 ∨ ix = 15 ∨ ix = 16 ∨ ix = 17 := by omega
                    rcases hix' with rfl | rfl | rfl | rfl | rfl | rfl | rfl | rfl | rfl | rfl | rfl | rfl | rfl | rfl | rfl | rfl | rfl | rfl
                    · have HR := Lib.hid hR
                      clear hR
                      have e11 := hout 11 (by decide)
                      clear hout hdep
                      refine op_list (by rfl) ?_
                      go_wp2
                      exact withK_intro ⟨_, rfl, Below.refl _ _, HR.out, PhiAt.known (by decide)⟩
                    · have HR := Lib.hid hR
                      clear hR
                      have e14 := hout 14 (by decide)
                      clear hout hdep
                      refine op_list (by rfl) ?_
                      go_wp2
                      exact withK_intro ⟨_, rfl, Below.refl _ _, HR.out, PhiAt.known (by decide)⟩
                    · have HR := Lib.hid hR
                      clear hR
                      have e112 : a.tmps[112]? = some (.pointer (some ⟨xb, 0, none⟩)) := flow_dep1 hdep 1 112 (by kernel_rfl) rfl (by decide)
                      have z0 := cellB' HR HZ.out.2.2.1
                      clear hout hdep
                      refine op_list (by rfl) ?_
                      go_wp2
                      exact withK_intro ⟨_, rfl, Below.refl _ _, HR.out, PhiAt.known (by decide)⟩
                    · have HR := Lib.hid hR
                      clear hR
                      have e14 := hout 14 (by decide)
                      clear hout hdep
                      refine op_list (by rfl) ?_
                      go_wp2
                      exact withK_intro ⟨_, rfl, Below.refl _ _, HR.out, PhiAt.known (by decide)⟩
                    · have HR := Lib.hid hR
                      clear hR
                      have e114 : a.tmps[114]? = some (.pointer (some ⟨xb, 1, none⟩)) := flow_dep1 hdep 3 114 (by kernel_rfl) rfl (by decide)
                      have z1 := cellB' HR HZ.out.2.2.2
                      clear hout hdep
                      refine op_list (by rfl) ?_
                      go_wp2
                      exact withK_intro ⟨_, rfl, Below.refl _ _, HR.out, PhiAt.known (by decide)⟩
                    · have HR := Lib.hid hR
                      clear hR
                      have e115 : a.tmps[115]? = some (.slice pa ps.length pc) := flow_dep1 hdep 4 115 (by kernel_rfl) rfl (by decide)
                      clear hout hdep
                      refine op_list (by rfl) ?_
                      go_wp2
                      exact withK_intro ⟨_, rfl, Below.refl _ _, HR.out, PhiAt.known (by decide)⟩
                    · have HR := Lib.hid hR
                      clear hR
                      have e15 := hout 15 (by decide)
                      clear hout hdep
                      refine op_list (by rfl) ?_
                      go_wp2
                      exact withK_intro ⟨_, rfl, Below.refl _ _, HR.out, PhiAt.known (by decide)⟩
                    · have HR := Lib.hid hR
                      clear hR
                      have e117 : a.tmps[117]? = some (.pointer (some ⟨fb, 0, none⟩)) := flow_dep1 hdep 6 117 (by kernel_rfl) rfl (by decide)
                      clear hout hdep
                      refine op_list (by rfl) ?_
                      go_wp2
                      exact withK_intro ⟨_, rfl, Below.refl _ _, HR.out, PhiAt.known (by decide)⟩
                    · have HR := Lib.hid hR
                      clear hR
                      have e118 : a.tmps[118]? = some (.pointer (some ⟨fb, 0, none⟩)) := flow_dep1 hdep 7 118 (by kernel_rfl) rfl (by decide)
                      clear hout hdep
                      refine op_list (by rfl) ?_
                      go_wp2
                      exact withK_intro ⟨_, rfl, Below.refl _ _, HR.out, PhiAt.known (by decide)⟩
                    · have HR := Lib.hid hR
                      clear hR
                      have e119 : a.tmps[119]? = some (.pointer (some ⟨fb, 0, none⟩)) := flow_dep1 hdep 8 119 (by kernel_rfl) rfl (by decide)
                      clear hout hdep
                      refine op_list (by rfl) ?_
                      go_wp2
                      exact withK_intro ⟨_, rfl, Below.refl _ _, HR.out, PhiAt.known (by decide)⟩
                    · have HR := Lib.hid hR
                      clear hR
                      have e120 : a.tmps[120]? = some (.pointer (some ⟨fb, 0, none⟩)) := flow_dep1 hdep 9 120 (by kernel_rfl) rfl (by decide)
                      have y0 := cellB' HR HZ.out.1
                      clear hout hdep
                      refine op_list (by rfl) ?_
                      go_wp2
                      exact withK_intro ⟨_, rfl, Below.refl _ _, HR.out, PhiAt.known (by decide)⟩
                    · have HR := Lib.hid hR
                      clear hR
                      have e15 := hout 15 (by decide)
                      clear hout hdep
                      refine op_list (by rfl) ?_
                      go_wp2
                      exact withK_intro ⟨_, rfl, Below.refl _ _, HR.out, PhiAt.known (by decide)⟩
                    · have HR := Lib.hid hR
                      clear hR
                      have e122 : a.tmps[122]? = some (.pointer (some ⟨fb, 0, none⟩)) := flow_dep1 hdep 11 122 (by kernel_rfl) rfl (by decide)
                      clear hout hdep
                      refine op_list (by rfl) ?_
                      go_wp2
                      exact withK_intro ⟨_, rfl, Below.refl _ _, HR.out, PhiAt.known (by decide)⟩
                    · have HR := Lib.hid hR
                      clear hR
                      have e123 : a.tmps[123]? = some (.pointer (some ⟨fb, 0, none⟩)) := flow_dep1 hdep 12 123 (by kernel_rfl) rfl (by decide)
                      clear hout hdep
                      refine op_list (by rfl) ?_
                      go_wp2
                      exact withK_intro ⟨_, rfl, Below.refl _ _, HR.out, PhiAt.known (by decide)⟩
                    · have HR := Lib.hid hR
                      clear hR
                      have e124 : a.tmps[124]? = some (.pointer (some ⟨fb, 2, none⟩)) := flow_dep1 hdep 13 124 (by kernel_rfl) rfl (by decide)
                      clear hout hdep
                      refine op_list (by rfl) ?_
                      go_wp2
                      exact withK_intro ⟨_, rfl, Below.refl _ _, HR.out, PhiAt.known (by decide)⟩
                    · have HR := Lib.hid hR
                      clear hR
                      have e125 : a.tmps[125]? = some (.pointer (some ⟨fb, 2, none⟩)) := flow_dep1 hdep 14 125 (by kernel_rfl) rfl (by decide)
                      have y2 := cellB' HR HZ.out.2.1
                      clear hout hdep
                      refine op_list (by rfl) ?_
                      go_wp2
                      exact withK_intro ⟨_, rfl, Below.refl _ _, HR.out, PhiAt.known (by decide)⟩
                    · have HR := Lib.hid hR
                      clear hR
                      have e113 : a.tmps[113]? = some (.string s) := flow_dep1 hdep 2 113 (by kernel_rfl) rfl (by decide)
                      have e116 : a.tmps[116]? = some (.int .i64 ps.length) := flow_dep1 hdep 5 116 (by kernel_rfl) rfl (by decide)
                      have e121 : a.tmps[121]? = some (.slice va0 nv vc0) := flow_dep1 hdep 10 121 (by kernel_rfl) rfl (by decide)
                      have e126 : a.tmps[126]? = some (.slice aa0 na ac0) := flow_dep1 hdep 15 126 (by kernel_rfl) rfl (by decide)
                      clear hout hdep
                      refine op_list (by rfl) ?_
                      go_wp2
                      exact withK_intro ⟨_, rfl, Below.refl _ _, HR.out, PhiAt.known (by decide)⟩
                    · have HR := Lib.hid hR
                      clear hR
                      have e127 : a.tmps[127]? = some (.agg #[.string s, .int .i64 ps.length, .slice va0 nv vc0, .slice aa0 na ac0]) := flow_dep1 hdep 16 127 (by kernel_rfl) rfl (by decide)
                      clear hout hdep
                      refine op_list (by rfl) ?_
                      go_wp2
                      exact withK_intro ⟨_, rfl, (Below.refl _ _).alloc (Nat.le_refl _) _, HR.out.alloc HR.out.size _, PhiAt.one ⟨_, rfl, heap_alloc_new _ _⟩⟩
                  case hl29 =>
                    intro vs wx hR hφ
                    have HR := Lib.hid hR
                    clear hR
                    obtain ⟨g, hg17, hgh⟩ := (hφ 17 (by omega)).1 rfl
                    rw [fill_congr _ [111, 112, 113, 114, 115, 116, 117, 118, 119, 120, 121, 122, 123, 124, 125, 126, 127, 128] vs (fun jx => ([.slice la j lc, .pointer (some ⟨xb, 0, none⟩), .string s, .pointer (some ⟨xb, 1, none⟩), .slice pa ps.length pc, .int .i64 ps.length, .pointer (some ⟨fb, 0, none⟩), .pointer (some ⟨fb, 0, none⟩), .pointer (some ⟨fb, 0, none⟩), .pointer (some ⟨fb, 0, none⟩), .slice va0 nv vc0, .pointer (some ⟨fb, 0, none⟩), .pointer (some ⟨fb, 0, none⟩), .pointer (some ⟨fb, 2, none⟩), .pointer (some ⟨fb, 2, none⟩), .slice aa0 na ac0, .agg #[.string s, .int .i64 ps.length, .slice va0 nv vc0, .slice aa0 na ac0], .slice (some ⟨g, 0, none⟩) 1 1] : List Value).getD jx undef) (fun jx hj => by
                      by_cases e : jx = 17
                      · subst e; assumption
                      · have hj' : jx = 0 ∨ jx = 1 ∨ jx = 2 ∨ jx = 3 ∨ jx = 4 ∨ jx = 5 ∨ jx = 6 ∨ jx = 7 ∨ jx = 8 ∨ jx = 9 ∨ jx = 10 ∨ jx = 11 ∨ jx = 12 ∨ jx = 13 ∨ jx = 14 ∨ jx = 15 ∨ jx = 16 := by simp at hj; omega
                        rw [(hφ jx hj).2 e]
                        rcases hj' with rfl | rfl | rfl | rfl | rfl | rfl | rfl | rfl | rfl | rfl | rfl | rfl | rfl | rfl | rfl | rfl | rfl <;> rfl)]
                    clear hφ
                    obtain ⟨iS, hiS, hS0, hS1, hS2⟩ := info_parts infoSc
                    obtain ⟨xs, hxs⟩ := HRS.out.row
                    have hxs := own_hold9 (own_hold9 hxs HBRW.out) HR.out
                    refine op_list (by rfl) ?_
                    refine wpList_append_own _ rfl _ _ 56 rfl w3.heap.size 61 iS _ 4 72 Tryz.underlying56 hiS hS0 hS1 hS2 rfl (by decide) (.slice la j lc) j xs (eval_fill2 _ _ _ 0 111 (by decide) rfl rfl) hxs ⟨g, 0, none⟩ 1 1 [.string s, .int .i64 ps.length, .slice va0 nv vc0, .slice aa0 na ac0] (eval_fill2 _ _ _ 17 128 (by decide) rfl rfl) rfl
                      (fun i u hu => by rw [addr_add0, Nat.zero_add, cell_of_heap hgh, ← hu]; simp) (by intro u hu; simp at hu; rcases hu with rfl | rfl | rfl | rfl <;> rfl) (by unfold maxLen; have := HLT.out; omega) (by have := HLT.out; omega) (Nat.le_trans HB36.out.size HR.out.size) ?_
                    intro v' w7 hown' hgrow _
                    obtain ⟨g', cap', rfl⟩ := ownsRow_succ' hown'
                    have HRN : Hid (RS w3 p.funcs p.all (j + 1) (.slice (some ⟨g', 0, none⟩) (j + 1) cap') w7) := by
                      refine RS.next (f := ⟨s, ps, bs⟩) (x := .slice va0 nv vc0) (y := .slice aa0 na ac0) HRS.out (HBRW.out.trans (HR.out.mono HBRW.out.size)) HX.out ?_ ?_ hgrow ⟨xs, hxs, hown'⟩
                      · rw [HFD.out, HNV.out]; exact own_lower (own_hold9 HOV.out HR.out) H3F.out
                      · rw [HFD.out, HNA.out]; exact own_lower (own_hold9 HOA.out HR.out) H3F.out
                    have HFN : Hid (true = (p.all.take (j + 1)).any (fun f => (f.found p.funcs).full)) := by
                      show _ = _
                      rw [any_take p.all default _ j (by rw [HNL.out]; exact HLT.out), ← HFL.out, HX.out, HFD.out]
                      unfold FS.full
                      rw [HNV.out, HNA.out]
                      simp []
                    have HIN : Hid (∀ i, i < j + 1 → ((p.all.getD i default).found p.funcs).fits = true) := by
                      intro i hi
                      rcases Nat.lt_or_ge i j with h | h
                      · exact HFI.out i h
                      · obtain rfl : i = j := by omega
                        rw [HX.out, HFD.out]; exact HQF.out
                    clear hown' hgrow hxs hgh hg17 hiS hS0 hS1 hS2
                    simp only [fill, fillA, List.getD_cons_zero, List.getD_cons_succ, Nat.reduceAdd, List.setIfInBounds_toArray, List.set_cons_succ, List.set_cons_zero]
                    go_wp2
                    refine withK_intro ?_
                    refine op_list (by rfl) ?_
                    go_wp2
                    refine withK_intro ?_
                    go_wp2
                    go_roundw
                    case rel => exact ⟨j + 1, _, _, _, by go_num, by omega, rfl, rfl, HRN.out, HFN.out, HIN.out⟩
                    case measure => simp [intOf]; omega
                  case hr29 => exact (Below.refl _ _).drew
                · as_aux_lemma =>
                  have hlc : (ps.length : Int) ≤ 9223372036854775807 := by omega
                  have hv' : (64 : Int) < nv := by omega
                  go_upto_region 29 with fail
                  clear y0 y2 z0 z1
                  refine region_flow2 rfl 18 rfl (by decide +kernel) (by decide +kernel) [111, 112, 113, 114, 115, 116, 117, 118, 119, 120, 121, 122, 123, 124, 125, 126, 127, 128] (by decide +kernel) rfl (by decide) (by simp) (fun w w' => Below w.heap.size w w') (fun w => Below w6.heap.size w6 w)
                    (PhiAt 17 (fun v w => ∃ g, v = .slice (some ⟨g, 0, none⟩) 1 1 ∧ w.heap[g]? = some (.cells #[.string s, .int .i64 ps.length, .slice va0 nv vc0, .slice aa0 na ac0] 61 (0, 0))) [.slice la j lc, .pointer (some ⟨xb, 0, none⟩), .string s, .pointer (some ⟨xb, 1, none⟩), .slice pa ps.length pc, .int .i64 ps.length, .pointer (some ⟨fb, 0, none⟩), .pointer (some ⟨fb, 0, none⟩), .pointer (some ⟨fb, 0, none⟩), .pointer (some ⟨fb, 0, none⟩), .slice va0 nv vc0, .pointer (some ⟨fb, 0, none⟩), .pointer (some ⟨fb, 0, none⟩), .pointer (some ⟨fb, 2, none⟩), .pointer (some ⟨fb, 2, none⟩), .slice aa0 na ac0, .agg #[.string s, .int .i64 ps.length, .slice va0 nv vc0, .slice aa0 na ac0], undef]) (fun j v w w' hS hh => hh.mono (fun h => (Exists.elim h fun g hg => ⟨g, hg.1, (hS.block g (lt_of_heap hg.2)).trans hg.2⟩))) ?hr29 ?hs29 ?hl29
                  case hs29 =>
                    intro ix hix a wx hR hout hdep
                    have hix' : ix = 0 ∨ ix = 1 ∨ ix = 2 ∨ ix = 3 ∨ ix = 4 ∨ ix = 5 ∨ ix = 6 ∨ ix = 7 ∨ ix = 8 ∨ ix = 9 ∨ ix = 10 ∨ ix = 11 ∨ ix = 12 ∨ ix = 13 ∨ ix = 14 ∨ ix = 15 ∨ ix = 16 ∨ ix = 17 := by omega
                    rcases hix' with rfl | rfl | rfl | rfl | rfl | rfl | rfl | rfl | rfl | rfl | rfl | rfl | rfl | rfl | rfl | rfl | rfl | rfl
                    · have HR := Lib.hid hR
                      clear hR
                      have e11 := hout 11 (by decide)
                      clear hout hdep
                      refine op_list (by rfl) ?_
                      go_wp2
                      exact withK_intro ⟨_, rfl, Below.refl _ _, HR.out, PhiAt.known (by decide)⟩
                    · have HR := Lib.hid hR
                      clear hR
                      have e14 := hout 14 (by decide)
                      clear hout hdep
                      refine op_list (by rfl) ?_
                      go_wp2
                      exact withK_intro ⟨_, rfl, Below.refl _ _, HR.out, PhiAt.known (by decide)⟩
                    · have HR := Lib.hid hR
                      clear hR
                      have e112 : a.tmps[112]? = some (.pointer (some ⟨xb, 0, none⟩)) := flow_dep1 hdep 1 112 (by kernel_rfl) rfl (by decide)
                      have z0 := cellB' HR HZ.out.2.2.1
                      clear hout hdep
                      refine op_list (by rfl) ?_
                      go_wp2
                      exact withK_intro ⟨_, rfl, Below.refl _ _, HR.out, PhiAt.known (by decide)⟩
                    · have HR := Lib.hid hR
                      clear hR
                      have e14 := hout 14 (by decide)
                      clear hout hdep
                      refine op_list (by rfl) ?_
                      go_wp2
                      exact withK_intro ⟨_, rfl, Below.refl _ _, HR.out, PhiAt.known (by decide)⟩
                    · have HR := Lib.hid hR
                      clear hR
                      have e114 : a.tmps[114]? = some (.pointer (some ⟨xb, 1, none⟩)) := flow_dep1 hdep 3 114 (by kernel_rfl) rfl (by decide)
                      have z1 := cellB' HR HZ.out.2.2.2
                      clear hout hdep
                      refine op_list (by rfl) ?_
                      go_wp2
                      exact withK_intro ⟨_, rfl, Below.refl _ _, HR.out, PhiAt.known (by decide)⟩
                    · have HR := Lib.hid hR
                      clear hR
                      have e115 : a.tmps[115]? = some (.slice pa ps.length pc) := flow_dep1 hdep 4 115 (by kernel_rfl) rfl (by decide)
                      clear hout hdep
                      refine op_list (by rfl) ?_
                      go_wp2
                      exact withK_intro ⟨_, rfl, Below.refl _ _, HR.out, PhiAt.known (by decide)⟩
                    · have HR := Lib.hid hR
                      clear hR
                      have e15 := hout 15 (by decide)
                      clear hout hdep
                      refine op_list (by rfl) ?_
                      go_wp2
                      exact withK_intro ⟨_, rfl, Below.refl _ _, HR.out, PhiAt.known (by decide)⟩
                    · have HR := Lib.hid hR
                      clear hR
                      have e117 : a.tmps[117]? = some (.pointer (some ⟨fb, 0, none⟩)) := flow_dep1 hdep 6 117 (by kernel_rfl) rfl (by decide)
                      clear hout hdep
                      refine op_list (by rfl) ?_
                      go_wp2
                      exact withK_intro ⟨_, rfl, Below.refl _ _, HR.out, PhiAt.known (by decide)⟩
                    · have HR := Lib.hid hR
                      clear hR
                      have e118 : a.tmps[118]? = some (.pointer (some ⟨fb, 0, none⟩)) := flow_dep1 hdep 7 118 (by kernel_rfl) rfl (by decide)
                      clear hout hdep
                      refine op_list (by rfl) ?_
                      go_wp2
                      exact withK_intro ⟨_, rfl, Below.refl _ _, HR.out, PhiAt.known (by decide)⟩
                    · have HR := Lib.hid hR
                      clear hR
                      have e119 : a.tmps[119]? = some (.pointer (some ⟨fb, 0, none⟩)) := flow_dep1 hdep 8 119 (by kernel_rfl) rfl (by decide)
                      clear hout hdep
                      refine op_list (by rfl) ?_
                      go_wp2
                      exact withK_intro ⟨_, rfl, Below.refl _ _, HR.out, PhiAt.known (by decide)⟩
                    · have HR := Lib.hid hR
                      clear hR
                      have e120 : a.tmps[120]? = some (.pointer (some ⟨fb, 0, none⟩)) := flow_dep1 hdep 9 120 (by kernel_rfl) rfl (by decide)
                      have y0 := cellB' HR HZ.out.1
                      clear hout hdep
                      refine op_list (by rfl) ?_
                      go_wp2
                      exact withK_intro ⟨_, rfl, Below.refl _ _, HR.out, PhiAt.known (by decide)⟩
                    · have HR := Lib.hid hR
                      clear hR
                      have e15 := hout 15 (by decide)
                      clear hout hdep
                      refine op_list (by rfl) ?_
                      go_wp2
                      exact withK_intro ⟨_, rfl, Below.refl _ _, HR.out, PhiAt.known (by decide)⟩
                    · have HR := Lib.hid hR
                      clear hR
                      have e122 : a.tmps[122]? = some (.pointer (some ⟨fb, 0, none⟩)) := flow_dep1 hdep 11 122 (by kernel_rfl) rfl (by decide)
                      clear hout hdep
                      refine op_list (by rfl) ?_
                      go_wp2
                      exact withK_intro ⟨_, rfl, Below.refl _ _, HR.out, PhiAt.known (by decide)⟩
                    · have HR := Lib.hid hR
                      clear hR
                      have e123 : a.tmps[123]? = some (.pointer (some ⟨fb, 0, none⟩)) := flow_dep1 hdep 12 123 (by kernel_rfl) rfl (by decide)
                      clear hout hdep
                      refine op_list (by rfl) ?_
                      go_wp2
                      exact withK_intro ⟨_, rfl, Below.refl _ _, HR.out, PhiAt.known (by decide)⟩
                    · have HR := Lib.hid hR
                      clear hR
                      have e124 : a.tmps[124]? = some (.pointer (some ⟨fb, 2, none⟩)) := flow_dep1 hdep 13 124 (by kernel_rfl) rfl (by decide)
                      clear hout hdep
                      refine op_list (by rfl) ?_
                      go_wp2
                      exact withK_intro ⟨_, rfl, Below.refl _ _, HR.out, PhiAt.known (by decide)⟩
                    · have HR := Lib.hid hR
                      clear hR
                      have e125 : a.tmps[125]? = some (.pointer (some ⟨fb, 2, none⟩)) := flow_dep1 hdep 14 125 (by kernel_rfl) rfl (by decide)
                      have y2 := cellB' HR HZ.out.2.1
                      clear hout hdep
                      refine op_list (by rfl) ?_
                      go_wp2
                      exact withK_intro ⟨_, rfl, Below.refl _ _, HR.out, PhiAt.known (by decide)⟩
                    · have HR := Lib.hid hR
                      clear hR
                      have e113 : a.tmps[113]? = some (.string s) := flow_dep1 hdep 2 113 (by kernel_rfl) rfl (by decide)
                      have e116 : a.tmps[116]? = some (.int .i64 ps.length) := flow_dep1 hdep 5 116 (by kernel_rfl) rfl (by decide)
                      have e121 : a.tmps[121]? = some (.slice va0 nv vc0) := flow_dep1 hdep 10 121 (by kernel_rfl) rfl (by decide)
                      have e126 : a.tmps[126]? = some (.slice aa0 na ac0) := flow_dep1 hdep 15 126 (by kernel_rfl) rfl (by decide)
                      clear hout hdep
                      refine op_list (by rfl) ?_
                      go_wp2
                      exact withK_intro ⟨_, rfl, Below.refl _ _, HR.out, PhiAt.known (by decide)⟩
                    · have HR := Lib.hid hR
                      clear hR
                      have e127 : a.tmps[127]? = some (.agg #[.string s, .int .i64 ps.length, .slice va0 nv vc0, .slice aa0 na ac0]) := flow_dep1 hdep 16 127 (by kernel_rfl) rfl (by decide)
                      clear hout hdep
                      refine op_list (by rfl) ?_
                      go_wp2
                      exact withK_intro ⟨_, rfl, (Below.refl _ _).alloc (Nat.le_refl _) _, HR.out.alloc HR.out.size _, PhiAt.one ⟨_, rfl, heap_alloc_new _ _⟩⟩
                  case hl29 =>
                    intro vs wx hR hφ
                    have HR := Lib.hid hR
                    clear hR
                    obtain ⟨g, hg17, hgh⟩ := (hφ 17 (by omega)).1 rfl
                    rw [fill_congr _ [111, 112, 113, 114, 115, 116, 117, 118, 119, 120, 121, 122, 123, 124, 125, 126, 127, 128] vs (fun jx => ([.slice la j lc, .pointer (some ⟨xb, 0, none⟩), .string s, .pointer (some ⟨xb, 1, none⟩), .slice pa ps.length pc, .int .i64 ps.length, .pointer (some ⟨fb, 0, none⟩), .pointer (some ⟨fb, 0, none⟩), .pointer (some ⟨fb, 0, none⟩), .pointer (some ⟨fb, 0, none⟩), .slice va0 nv vc0, .pointer (some ⟨fb, 0, none⟩), .pointer (some ⟨fb, 0, none⟩), .pointer (some ⟨fb, 2, none⟩), .pointer (some ⟨fb, 2, none⟩), .slice aa0 na ac0, .agg #[.string s, .int .i64 ps.length, .slice va0 nv vc0, .slice aa0 na ac0], .slice (some ⟨g, 0, none⟩) 1 1] : List Value).getD jx undef) (fun jx hj => by
                      by_cases e : jx = 17
                      · subst e; assumption
                      · have hj' : jx = 0 ∨ jx = 1 ∨ jx = 2 ∨ jx = 3 ∨ jx = 4 ∨ jx = 5 ∨ jx = 6 ∨ jx = 7 ∨ jx = 8 ∨ jx = 9 ∨ jx = 10 ∨ jx = 11 ∨ jx = 12 ∨ jx = 13 ∨ jx = 14 ∨ jx = 15 ∨ jx = 16 := by simp at hj; omega
                        rw [(hφ jx hj).2 e]
                        rcases hj' with rfl | rfl | rfl | rfl | rfl | rfl | rfl | rfl | rfl | rfl | rfl | rfl | rfl | rfl | rfl | rfl | rfl <;> rfl)]
                    clear hφ
                    obtain ⟨iS, hiS, hS0, hS1, hS2⟩ := info_parts infoSc
                    obtain ⟨xs, hxs⟩ := HRS.out.row
                    have hxs := own_hold9 (own_hold9 hxs HBRW.out) HR.out
                    refine op_list (by rfl) ?_
                    refine wpList_append_own _ rfl _ _ 56 rfl w3.heap.size 61 iS _ 4 72 Tryz.underlying56 hiS hS0 hS1 hS2 rfl (by decide) (.slice la j lc) j xs (eval_fill2 _ _ _ 0 111 (by decide) rfl rfl) hxs ⟨g, 0, none⟩ 1 1 [.string s, .int .i64 ps.length, .slice va0 nv vc0, .slice aa0 na ac0] (eval_fill2 _ _ _ 17 128 (by decide) rfl rfl) rfl
                      (fun i u hu => by rw [addr_add0, Nat.zero_add, cell_of_heap hgh, ← hu]; simp) (by intro u hu; simp at hu; rcases hu with rfl | rfl | rfl | rfl <;> rfl) (by unfold maxLen; have := HLT.out; omega) (by have := HLT.out; omega) (Nat.le_trans HB36.out.size HR.out.size) ?_
                    intro v' w7 hown' hgrow _
                    obtain ⟨g', cap', rfl⟩ := ownsRow_succ' hown'
                    have HRN : Hid (RS w3 p.funcs p.all (j + 1) (.slice (some ⟨g', 0, none⟩) (j + 1) cap') w7) := by
                      refine RS.next (f := ⟨s, ps, bs⟩) (x := .slice va0 nv vc0) (y := .slice aa0 na ac0) HRS.out (HBRW.out.trans (HR.out.mono HBRW.out.size)) HX.out ?_ ?_ hgrow ⟨xs, hxs, hown'⟩
                      · rw [HFD.out, HNV.out]; exact own_lower (own_hold9 HOV.out HR.out) H3F.out
                      · rw [HFD.out, HNA.out]; exact own_lower (own_hold9 HOA.out HR.out) H3F.out
                    have HFN : Hid (true = (p.all.take (j + 1)).any (fun f => (f.found p.funcs).full)) := by
                      show _ = _
                      rw [any_take p.all default _ j (by rw [HNL.out]; exact HLT.out), ← HFL.out, HX.out, HFD.out]
                      unfold FS.full
                      rw [HNV.out, HNA.out]
                      simp [hv]
                    have HIN : Hid (∀ i, i < j + 1 → ((p.all.getD i default).found p.funcs).fits = true) := by
                      intro i hi
                      rcases Nat.lt_or_ge i j with h | h
                      · exact HFI.out i h
                      · obtain rfl : i = j := by omega
                        rw [HX.out, HFD.out]; exact HQF.out
                    clear hown' hgrow hxs hgh hg17 hiS hS0 hS1 hS2
                    simp only [fill, fillA, List.getD_cons_zero, List.getD_cons_succ, Nat.reduceAdd, List.setIfInBounds_toArray, List.set_cons_succ, List.set_cons_zero]
                    go_wp2
                    refine withK_intro ?_
                    refine op_list (by rfl) ?_
                    go_wp2
                    refine withK_intro ?_
                    go_wp2
                    go_roundw
                    case rel => exact ⟨j + 1, _, _, _, by go_num, by omega, rfl, rfl, HRN.out, HFN.out, HIN.out⟩
                    case measure => simp [intOf]; omega
                  case hr29 => exact (Below.refl _ _).drew
                · as_aux_lemma =>
                  have hlc : (ps.length : Int) ≤ 9223372036854775807 := by omega
                  have hv' : ¬ (64 : Int) < nv := by omega
                  have ha' : (64 : Int) < na := by omega
                  go_upto_region 29 with fail
                  clear y0 y2 z0 z1
                  refine region_flow2 rfl 18 rfl (by decide +kernel) (by decide +kernel) [111, 112, 113, 114, 115, 116, 117, 118, 119, 120, 121, 122, 123, 124, 125, 126, 127, 128] (by decide +kernel) rfl (by decide) (by simp) (fun w w' => Below w.heap.size w w') (fun w => Below w6.heap.size w6 w)
                    (PhiAt 17 (fun v w => ∃ g, v = .slice (some ⟨g, 0, none⟩) 1 1 ∧ w.heap[g]? = some (.cells #[.string s, .int .i64 ps.length, .slice va0 nv vc0, .slice aa0 na ac0] 61 (0, 0))) [.slice la j lc, .pointer (some ⟨xb, 0, none⟩), .string s, .pointer (some ⟨xb, 1, none⟩), .slice pa ps.length pc, .int .i64 ps.length, .pointer (some ⟨fb, 0, none⟩), .pointer (some ⟨fb, 0, none⟩), .pointer (some ⟨fb, 0, none⟩), .pointer (some ⟨fb, 0, none⟩), .slice va0 nv vc0, .pointer (some ⟨fb, 0, none⟩), .pointer (some ⟨fb, 0, none⟩), .pointer (some ⟨fb, 2, none⟩), .pointer (some ⟨fb, 2, none⟩), .slice aa0 na ac0, .agg #[.string s, .int .i64 ps.length, .slice va0 nv vc0, .slice aa0 na ac0], undef]) (fun j v w w' hS hh => hh.mono (fun h => (Exists.elim h fun g hg => ⟨g, hg.1, (hS.block g (lt_of_heap hg.2)).trans hg.2⟩))) ?hr29 ?hs29 ?hl29
                  case hs29 =>
                    intro ix hix a wx hR hout hdep
                    have hix' : ix = 0 ∨ ix = 1 ∨ ix = 2 ∨ ix = 3 ∨ ix = 4 ∨ ix = 5 ∨ ix = 6 ∨ ix = 7 ∨ ix = 8 ∨ ix = 9 ∨ ix = 10 ∨ ix = 11 ∨ ix = 12 ∨ ix = 13 ∨ ix = 14 ∨ ix = 15 ∨ ix = 16 ∨ ix = 17 := by omega
                    rcases hix' with rfl | rfl | rfl | rfl | rfl | rfl | rfl | rfl | rfl | rfl | rfl | rfl | rfl | rfl | rfl | rfl | rfl | rfl
                    · have HR := Lib.hid hR
                      clear hR
                      have e11 := hout 11 (by decide)
                      clear hout hdep
                      refine op_list (by rfl) ?_
                      go_wp2
                      exact withK_intro ⟨_, rfl, Below.refl _ _, HR.out, PhiAt.known (by decide)⟩
                    · have HR := Lib.hid hR
                      clear hR
                      have e14 := hout 14 (by decide)
                      clear hout hdep
                      refine op_list (by rfl) ?_
                      go_wp2
                      exact withK_intro ⟨_, rfl, Below.refl _ _, HR.out, PhiAt.known (by decide)⟩
                    · have HR := Lib.hid hR
                      clear hR
                      have e112 : a.tmps[112]? = some (.pointer (some ⟨xb, 0, none⟩)) := flow_dep1 hdep 1 112 (by kernel_rfl) rfl (by decide)
                      have z0 := cellB' HR HZ.out.2.2.1
                      clear hout hdep
                      refine op_list (by rfl) ?_
                      go_wp2
                      exact withK_intro ⟨_, rfl, Below.refl _ _, HR.out, PhiAt.known (by decide)⟩
                    · have HR := Lib.hid hR
                      clear hR
                      have e14 := hout 14 (by decide)
                      clear hout hdep
                      refine op_list (by rfl) ?_
                      go_wp2
                      exact withK_intro ⟨_, rfl, Below.refl _ _, HR.out, PhiAt.known (by decide)⟩
                    · have HR := Lib.hid hR
                      clear hR
                      have e114 : a.tmps[114]? = some (.pointer (some ⟨xb, 1, none⟩)) := flow_dep1 hdep 3 114 (by kernel_rfl) rfl (by decide)
                      have z1 := cellB' HR HZ.out.2.2.2
                      clear hout hdep
                      refine op_list (by rfl) ?_
                      go_wp2
                      exact withK_intro ⟨_, rfl, Below.refl _ _, HR.out, PhiAt.known (by decide)⟩
                    · have HR := Lib.hid hR
                      clear hR
                      have e115 : a.tmps[115]? = some (.slice pa ps.length pc) := flow_dep1 hdep 4 115 (by kernel_rfl) rfl (by decide)
                      clear hout hdep
                      refine op_list (by rfl) ?_
                      go_wp2
                      exact withK_intro ⟨_, rfl, Below.refl _ _, HR.out, PhiAt.known (by decide)⟩
                    · have HR := Lib.hid hR
                      clear hR
                      have e15 := hout 15 (by decide)
                      clear hout hdep
                      refine op_list (by rfl) ?_
                      go_wp2
                      exact withK_intro ⟨_, rfl, Below.refl _ _, HR.out, PhiAt.known (by decide)⟩
                    · have HR := Lib.hid hR
                      clear hR
                      have e117 : a.tmps[117]? = some (.pointer (some ⟨fb, 0, none⟩)) := flow_dep1 hdep 6 117 (by kernel_rfl) rfl (by decide)
                      clear hout hdep
                      refine op_list (by rfl) ?_
                      go_wp2
                      exact withK_intro ⟨_, rfl, Below.refl _ _, HR.out, PhiAt.known (by decide)⟩
                    · have HR := Lib.hid hR
                      clear hR
                      have e118 : a.tmps[118]? = some (.pointer (some ⟨fb, 0, none⟩)) := flow_dep1 hdep 7 118 (by kernel_rfl) rfl (by decide)
                      clear hout hdep
                      refine op_list (by rfl) ?_
                      go_wp2
                      exact withK_intro ⟨_, rfl, Below.refl _ _, HR.out, PhiAt.known (by decide)⟩
                    · have HR := Lib.hid hR
                      clear hR
                      have e119 : a.tmps[119]? = some (.pointer (some ⟨fb, 0, none⟩)) := flow_dep1 hdep 8 119 (by kernel_rfl) rfl (by decide)
                      clear hout hdep
                      refine op_list (by rfl) ?_
                      go_wp2
                      exact withK_intro ⟨_, rfl, Below.refl _ _, HR.out, PhiAt.known (by decide)⟩
                    · have HR := Lib.hid hR
                      clear hR
                      have e120 : a.tmps[120]? = some (.pointer (some ⟨fb, 0, none⟩)) := flow_dep1 hdep 9 120 (by kernel_rfl) rfl (by decide)
                      have y0 := cellB' HR HZ.out.1
                      clear hout hdep
                      refine op_list (by rfl) ?_
                      go_wp2
                      exact withK_intro ⟨_, rfl, Below.refl _ _, HR.out, PhiAt.known (by decide)⟩
                    · have HR := Lib.hid hR
                      clear hR
                      have e15 := hout 15 (by decide)
                      clear hout hdep
                      refine op_list (by rfl) ?_
                      go_wp2
                      exact withK_intro ⟨_, rfl, Below.refl _ _, HR.out, PhiAt.known (by decide)⟩
                    · have HR := Lib.hid hR
                      clear hR
                      have e122 : a.tmps[122]? = some (.pointer (some ⟨fb, 0, none⟩)) := flow_dep1 hdep 11 122 (by kernel_rfl) rfl (by decide)
                      clear hout hdep
                      refine op_list (by rfl) ?_
                      go_wp2
                      exact withK_intro ⟨_, rfl, Below.refl _ _, HR.out, PhiAt.known (by decide)⟩
                    · have HR := Lib.hid hR
                      clear hR
                      have e123 : a.tmps[123]? = some (.pointer (some ⟨fb, 0, none⟩)) := flow_dep1 hdep 12 123 (by kernel_rfl) rfl (by decide)
                      clear hout hdep
                      refine op_list (by rfl) ?_
                      go_wp2
                      exact withK_intro ⟨_, rfl, Below.refl _ _, HR.out, PhiAt.known (by decide)⟩
                    · have HR := Lib.hid hR
                      clear hR
                      have e124 : a.tmps[124]? = some (.pointer (some ⟨fb, 2, none⟩)) := flow_dep1 hdep 13 124 (by kernel_rfl) rfl (by decide)
                      clear hout hdep
                      refine op_list (by rfl) ?_
                      go_wp2
                      exact withK_intro ⟨_, rfl, Below.refl _ _, HR.out, PhiAt.known (by decide)⟩
                    · have HR := Lib.hid hR
                      clear hR
                      have e125 : a.tmps[125]? = some (.pointer (some ⟨fb, 2, none⟩)) := flow_dep1 hdep 14 125 (by kernel_rfl) rfl (by decide)
                      have y2 := cellB' HR HZ.out.2.1
                      clear hout hdep
                      refine op_list (by rfl) ?_
                      go_wp2
                      exact withK_intro ⟨_, rfl, Below.refl _ _, HR.out, PhiAt.known (by decide)⟩
                    · have HR := Lib.hid hR
                      clear hR
                      have e113 : a.tmps[113]? = some (.string s) := flow_dep1 hdep 2 113 (by kernel_rfl) rfl (by decide)
                      have e116 : a.tmps[116]? = some (.int .i64 ps.length) := flow_dep1 hdep 5 116 (by kernel_rfl) rfl (by decide)
                      have e121 : a.tmps[121]? = some (.slice va0 nv vc0) := flow_dep1 hdep 10 121 (by kernel_rfl) rfl (by decide)
                      have e126 : a.tmps[126]? = some (.slice aa0 na ac0) := flow_dep1 hdep 15 126 (by kernel_rfl) rfl (by decide)
                      clear hout hdep
                      refine op_list (by rfl) ?_
                      go_wp2
                      exact withK_intro ⟨_, rfl, Below.refl _ _, HR.out, PhiAt.known (by decide)⟩
                    · have HR := Lib.hid hR
                      clear hR
                      have e127 : a.tmps[127]? = some (.agg #[.string s, .int .i64 ps.length, .slice va0 nv vc0, .slice aa0 na ac0]) := flow_dep1 hdep 16 127 (by kernel_rfl) rfl (by decide)
                      clear hout hdep
                      refine op_list (by rfl) ?_
                      go_wp2
                      exact withK_intro ⟨_, rfl, (Below.refl _ _).alloc (Nat.le_refl _) _, HR.out.alloc HR.out.size _, PhiAt.one ⟨_, rfl, heap_alloc_new _ _⟩⟩
                  case hl29 =>
                    intro vs wx hR hφ
                    have HR := Lib.hid hR
                    clear hR
                    obtain ⟨g, hg17, hgh⟩ := (hφ 17 (by omega)).1 rfl
                    rw [fill_congr _ [111, 112, 113, 114, 115, 116, 117, 118, 119, 120, 121, 122, 123, 124, 125, 126, 127, 128] vs (fun jx => ([.slice la j lc, .pointer (some ⟨xb, 0, none⟩), .string s, .pointer (some ⟨xb, 1, none⟩), .slice pa ps.length pc, .int .i64 ps.length, .pointer (some ⟨fb, 0, none⟩), .pointer (some ⟨fb, 0, none⟩), .pointer (some ⟨fb, 0, none⟩), .pointer (some ⟨fb, 0, none⟩), .slice va0 nv vc0, .pointer (some ⟨fb, 0, none⟩), .pointer (some ⟨fb, 0, none⟩), .pointer (some ⟨fb, 2, none⟩), .pointer (some ⟨fb, 2, none⟩), .slice aa0 na ac0, .agg #[.string s, .int .i64 ps.length, .slice va0 nv vc0, .slice aa0 na ac0], .slice (some ⟨g, 0, none⟩) 1 1] : List Value).getD jx undef) (fun jx hj => by
                      by_cases e : jx = 17
                      · subst e; assumption
                      · have hj' : jx = 0 ∨ jx = 1 ∨ jx = 2 ∨ jx = 3 ∨ jx = 4 ∨ jx = 5 ∨ jx = 6 ∨ jx = 7 ∨ jx = 8 ∨ jx = 9 ∨ jx = 10 ∨ jx = 11 ∨ jx = 12 ∨ jx = 13 ∨ jx = 14 ∨ jx = 15 ∨ jx = 16 := by simp at hj; omega
                        rw [(hφ jx hj).2 e]
                        rcases hj' with rfl | rfl | rfl | rfl | rfl | rfl | rfl | rfl | rfl | rfl | rfl | rfl | rfl | rfl | rfl | rfl | rfl <;> rfl)]
                    clear hφ
                    obtain ⟨iS, hiS, hS0, hS1, hS2⟩ := info_parts infoSc
                    obtain ⟨xs, hxs⟩ := HRS.out.row
                    have hxs := own_hold9 (own_hold9 hxs HBRW.out) HR.out
                    refine op_list (by rfl) ?_
                    refine wpList_append_own _ rfl _ _ 56 rfl w3.heap.size 61 iS _ 4 72 Tryz.underlying56 hiS hS0 hS1 hS2 rfl (by decide) (.slice la j lc) j xs (eval_fill2 _ _ _ 0 111 (by decide) rfl rfl) hxs ⟨g, 0, none⟩ 1 1 [.string s, .int .i64 ps.length, .slice va0 nv vc0, .slice aa0 na ac0] (eval_fill2 _ _ _ 17 128 (by decide) rfl rfl) rfl
                      (fun i u hu => by rw [addr_add0, Nat.zero_add, cell_of_heap hgh, ← hu]; simp) (by intro u hu; simp at hu; rcases hu with rfl | rfl | rfl | rfl <;> rfl) (by unfold maxLen; have := HLT.out; omega) (by have := HLT.out; omega) (Nat.le_trans HB36.out.size HR.out.size) ?_
                    intro v' w7 hown' hgrow _
                    obtain ⟨g', cap', rfl⟩ := ownsRow_succ' hown'
                    have HRN : Hid (RS w3 p.funcs p.all (j + 1) (.slice (some ⟨g', 0, none⟩) (j + 1) cap') w7) := by
                      refine RS.next (f := ⟨s, ps, bs⟩) (x := .slice va0 nv vc0) (y := .slice aa0 na ac0) HRS.out (HBRW.out.trans (HR.out.mono HBRW.out.size)) HX.out ?_ ?_ hgrow ⟨xs, hxs, hown'⟩
                      · rw [HFD.out, HNV.out]; exact own_lower (own_hold9 HOV.out HR.out) H3F.out
                      · rw [HFD.out, HNA.out]; exact own_lower (own_hold9 HOA.out HR.out) H3F.out
                    have HFN : Hid (true = (p.all.take (j + 1)).any (fun f => (f.found p.funcs).full)) := by
                      show _ = _
                      rw [any_take p.all default _ j (by rw [HNL.out]; exact HLT.out), ← HFL.out, HX.out, HFD.out]
                      unfold FS.full
                      rw [HNV.out, HNA.out]
                      simp [hv, ha]
                    have HIN : Hid (∀ i, i < j + 1 → ((p.all.getD i default).found p.funcs).fits = true) := by
                      intro i hi
                      rcases Nat.lt_or_ge i j with h | h
                      · exact HFI.out i h
                      · obtain rfl : i = j := by omega
                        rw [HX.out, HFD.out]; exact HQF.out
                    clear hown' hgrow hxs hgh hg17 hiS hS0 hS1 hS2
                    simp only [fill, fillA, List.getD_cons_zero, List.getD_cons_succ, Nat.reduceAdd, List.setIfInBounds_toArray, List.set_cons_succ, List.set_cons_zero]
                    go_wp2
                    refine withK_intro ?_
                    refine op_list (by rfl) ?_
                    go_wp2
                    refine withK_intro ?_
                    go_wp2
                    go_roundw
                    case rel => exact ⟨j + 1, _, _, _, by go_num, by omega, rfl, rfl, HRN.out, HFN.out, HIN.out⟩
                    case measure => simp [intOf]; omega
                  case hr29 => exact (Below.refl _ _).drew
                · as_aux_lemma =>
                  have hlc : (ps.length : Int) ≤ 9223372036854775807 := by omega
                  have hv' : ¬ (64 : Int) < nv := by omega
                  have ha' : ¬ (64 : Int) < na := by omega
                  go_upto_region 29 with fail
                  clear y0 y2 z0 z1
                  refine region_flow2 rfl 18 rfl (by decide +kernel) (by decide +kernel) [111, 112, 113, 114, 115, 116, 117, 118, 119, 120, 121, 122, 123, 124, 125, 126, 127, 128] (by decide +kernel) rfl (by decide) (by simp) (fun w w' => Below w.heap.size w w') (fun w => Below w6.heap.size w6 w)
                    (PhiAt 17 (fun v w => ∃ g, v = .slice (some ⟨g, 0, none⟩) 1 1 ∧ w.heap[g]? = some (.cells #[.string s, .int .i64 ps.length, .slice va0 nv vc0, .slice aa0 na ac0] 61 (0, 0))) [.slice la j lc, .pointer (some ⟨xb, 0, none⟩), .string s, .pointer (some ⟨xb, 1, none⟩), .slice pa ps.length pc, .int .i64 ps.length, .pointer (some ⟨fb, 0, none⟩), .pointer (some ⟨fb, 0, none⟩), .pointer (some ⟨fb, 0, none⟩), .pointer (some ⟨fb, 0, none⟩), .slice va0 nv vc0, .pointer (some ⟨fb, 0, none⟩), .pointer (some ⟨fb, 0, none⟩), .pointer (some ⟨fb, 2, none⟩), .pointer (some ⟨fb, 2, none⟩), .slice aa0 na ac0, .agg #[.string s, .int .i64 ps.length, .slice va0 nv vc0, .slice aa0 na ac0], undef]) (fun j v w w' hS hh => hh.mono (fun h => (Exists.elim h fun g hg => ⟨g, hg.1, (hS.block g (lt_of_heap hg.2)).trans hg.2⟩))) ?hr29 ?hs29 ?hl29
                  case hs29 =>
                    intro ix hix a wx hR hout hdep
                    have hix' : ix = 0 ∨ ix = 1 ∨ ix = 2 ∨ ix = 3 ∨ ix = 4 ∨ ix = 5 ∨ ix = 6 ∨ ix = 7 ∨ ix = 8 ∨ ix = 9 ∨ ix = 10 ∨ ix = 11 ∨ ix = 12 ∨ ix = 13 ∨ ix = 14 ∨ ix = 15 ∨ ix = 16 ∨ ix = 17 := by omega
                    rcases hix' with rfl | rfl | rfl | rfl | rfl | rfl | rfl | rfl | rfl | rfl | rfl | rfl | rfl | rfl | rfl | rfl | rfl | rfl
                    · have HR := Lib.hid hR
                      clear hR
                      have e11 := hout 11 (by decide)
                      clear hout hdep
                      refine op_list (by rfl) ?_
                      go_wp2
                      exact withK_intro ⟨_, rfl, Below.refl _ _, HR.out, PhiAt.known (by decide)⟩
                    · have HR := Lib.hid hR
                      clear hR
                      have e14 := hout 14 (by decide)
                      clear hout hdep
                      refine op_list (by rfl) ?_
                      go_wp2
                      exact withK_intro ⟨_, rfl, Below.refl _ _, HR.out, PhiAt.known (by decide)⟩
                    · have HR := Lib.hid hR
                      clear hR
                      have e112 : a.tmps[112]? = some (.pointer (some ⟨xb, 0, none⟩)) := flow_dep1 hdep 1 112 (by kernel_rfl) rfl (by decide)
                      have z0 := cellB' HR HZ.out.2.2.1
                      clear hout hdep
                      refine op_list (by rfl) ?_
                      go_wp2
                      exact withK_intro ⟨_, rfl, Below.refl _ _, HR.out, PhiAt.known (by decide)⟩
                    · have HR := Lib.hid hR
                      clear hR
                      have e14 := hout 14 (by decide)
                      clear hout hdep
                      refine op_list (by rfl) ?_
                      go_wp2
                      exact withK_intro ⟨_, rfl, Below.refl _ _, HR.out, PhiAt.known (by decide)⟩
                    · have HR := Lib.hid hR
                      clear hR
                      have e114 : a.tmps[114]? = some (.pointer (some ⟨xb, 1, none⟩)) := flow_dep1 hdep 3 114 (by kernel_rfl) rfl (by decide)
                      have z1 := cellB' HR HZ.out.2.2.2
                      clear hout hdep
                      refine op_list (by rfl) ?_
                      go_wp2
                      exact withK_intro ⟨_, rfl, Below.refl _ _, HR.out, PhiAt.known (by decide)⟩
                    · have HR := Lib.hid hR
                      clear hR
                      have e115 : a.tmps[115]? = some (.slice pa ps.length pc) := flow_dep1 hdep 4 115 (by kernel_rfl) rfl (by decide)
                      clear hout hdep
                      refine op_list (by rfl) ?_
                      go_wp2
                      exact withK_intro ⟨_, rfl, Below.refl _ _, HR.out, PhiAt.known (by decide)⟩
                    · have HR := Lib.hid hR
                      clear hR
                      have e15 := hout 15 (by decide)
                      clear hout hdep
                      refine op_list (by rfl) ?_
                      go_wp2
                      exact withK_intro ⟨_, rfl, Below.refl _ _, HR.out, PhiAt.known (by decide)⟩
                    · have HR := Lib.hid hR
                      clear hR
                      have e117 : a.tmps[117]? = some (.pointer (some ⟨fb, 0, none⟩)) := flow_dep1 hdep 6 117 (by kernel_rfl) rfl (by decide)
                      clear hout hdep
                      refine op_list (by rfl) ?_
                      go_wp2
                      exact withK_intro ⟨_, rfl, Below.refl _ _, HR.out, PhiAt.known (by decide)⟩
                    · have HR := Lib.hid hR
                      clear hR
                      have e118 : a.tmps[118]? = some (.pointer (some ⟨fb, 0, none⟩)) := flow_dep1 hdep 7 118 (by kernel_rfl) rfl (by decide)
                      clear hout hdep
                      refine op_list (by rfl) ?_
                      go_wp2
                      exact withK_intro ⟨_, rfl, Below.refl _ _, HR.out, PhiAt.known (by decide)⟩
                    · have HR := Lib.hid hR
                      clear hR
                      have e119 : a.tmps[119]? = some (.pointer (some ⟨fb, 0, none⟩)) := flow_dep1 hdep 8 119 (by kernel_rfl) rfl (by decide)
                      clear hout hdep
                      refine op_list (by rfl) ?_
                      go_wp2
                      exact withK_intro ⟨_, rfl, Below.refl _ _, HR.out, PhiAt.known (by decide)⟩
                    · have HR := Lib.hid hR
                      clear hR
                      have e120 : a.tmps[120]? = some (.pointer (some ⟨fb, 0, none⟩)) := flow_dep1 hdep 9 120 (by kernel_rfl) rfl (by decide)
                      have y0 := cellB' HR HZ.out.1
                      clear hout hdep
                      refine op_list (by rfl) ?_
                      go_wp2
                      exact withK_intro ⟨_, rfl, Below.refl _ _, HR.out, PhiAt.known (by decide)⟩
                    · have HR := Lib.hid hR
                      clear hR
                      have e15 := hout 15 (by decide)
                      clear hout hdep
                      refine op_list (by rfl) ?_
                      go_wp2
                      exact withK_intro ⟨_, rfl, Below.refl _ _, HR.out, PhiAt.known (by decide)⟩
                    · have HR := Lib.hid hR
                      clear hR
                      have e122 : a.tmps[122]? = some (.pointer (some ⟨fb, 0, none⟩)) := flow_dep1 hdep 11 122 (by kernel_rfl) rfl (by decide)
                      clear hout hdep
                      refine op_list (by rfl) ?_
                      go_wp2
                      exact withK_intro ⟨_, rfl, Below.refl _ _, HR.out, PhiAt.known (by decide)⟩
                    · have HR := Lib.hid hR
                      clear hR
                      have e123 : a.tmps[123]? = some (.pointer (some ⟨fb, 0, none⟩)) := flow_dep1 hdep 12 123 (by kernel_rfl) rfl (by decide)
                      clear hout hdep
                      refine op_list (by rfl) ?_
                      go_wp2
                      exact withK_intro ⟨_, rfl, Below.refl _ _, HR.out, PhiAt.known (by decide)⟩
                    · have HR := Lib.hid hR
                      clear hR
                      have e124 : a.tmps[124]? = some (.pointer (some ⟨fb, 2, none⟩)) := flow_dep1 hdep 13 124 (by kernel_rfl) rfl (by decide)
                      clear hout hdep
                      refine op_list (by rfl) ?_
                      go_wp2
                      exact withK_intro ⟨_, rfl, Below.refl _ _, HR.out, PhiAt.known (by decide)⟩
                    · have HR := Lib.hid hR
                      clear hR
                      have e125 : a.tmps[125]? = some (.pointer (some ⟨fb, 2, none⟩)) := flow_dep1 hdep 14 125 (by kernel_rfl) rfl (by decide)
                      have y2 := cellB' HR HZ.out.2.1
                      clear hout hdep
                      refine op_list (by rfl) ?_
                      go_wp2
                      exact withK_intro ⟨_, rfl, Below.refl _ _, HR.out, PhiAt.known (by decide)⟩
                    · have HR := Lib.hid hR
                      clear hR
                      have e113 : a.tmps[113]? = some (.string s) := flow_dep1 hdep 2 113 (by kernel_rfl) rfl (by decide)
                      have e116 : a.tmps[116]? = some (.int .i64 ps.length) := flow_dep1 hdep 5 116 (by kernel_rfl) rfl (by decide)
                      have e121 : a.tmps[121]? = some (.slice va0 nv vc0) := flow_dep1 hdep 10 121 (by kernel_rfl) rfl (by decide)
                      have e126 : a.tmps[126]? = some (.slice aa0 na ac0) := flow_dep1 hdep 15 126 (by kernel_rfl) rfl (by decide)
                      clear hout hdep
                      refine op_list (by rfl) ?_
                      go_wp2
                      exact withK_intro ⟨_, rfl, Below.refl _ _, HR.out, PhiAt.known (by decide)⟩
                    · have HR := Lib.hid hR
                      clear hR
                      have e127 : a.tmps[127]? = some (.agg #[.string s, .int .i64 ps.length, .slice va0 nv vc0, .slice aa0 na ac0]) := flow_dep1 hdep 16 127 (by kernel_rfl) rfl (by decide)
                      clear hout hdep
                      refine op_list (by rfl) ?_
                      go_wp2
                      exact withK_intro ⟨_, rfl, (Below.refl _ _).alloc (Nat.le_refl _) _, HR.out.alloc HR.out.size _, PhiAt.one ⟨_, rfl, heap_alloc_new _ _⟩⟩
                  case hl29 =>
                    intro vs wx hR hφ
                    have HR := Lib.hid hR
                    clear hR
                    obtain ⟨g, hg17, hgh⟩ := (hφ 17 (by omega)).1 rfl
                    rw [fill_congr _ [111, 112, 113, 114, 115, 116, 117, 118, 119, 120, 121, 122, 123, 124, 125, 126, 127, 128] vs (fun jx => ([.slice la j lc, .pointer (some ⟨xb, 0, none⟩), .string s, .pointer (some ⟨xb, 1, none⟩), .slice pa ps.length pc, .int .i64 ps.length, .pointer (some ⟨fb, 0, none⟩), .pointer (some ⟨fb, 0, none⟩), .pointer (some ⟨fb, 0, none⟩), .pointer (some ⟨fb, 0, none⟩), .slice va0 nv vc0, .pointer (some ⟨fb, 0, none⟩), .pointer (some ⟨fb, 0, none⟩), .pointer (some ⟨fb, 2, none⟩), .pointer (some ⟨fb, 2, none⟩), .slice aa0 na ac0, .agg #[.string s, .int .i64 ps.length, .slice va0 nv vc0, .slice aa0 na ac0], .slice (some ⟨g, 0, none⟩) 1 1] : List Value).getD jx undef) (fun jx hj => by
                      by_cases e : jx = 17
                      · subst e; assumption
                      · have hj' : jx = 0 ∨ jx = 1 ∨ jx = 2 ∨ jx = 3 ∨ jx = 4 ∨ jx = 5 ∨ jx = 6 ∨ jx = 7 ∨ jx = 8 ∨ jx = 9 ∨ jx = 10 ∨ jx = 11 ∨ jx = 12 ∨ jx = 13 ∨ jx = 14 ∨ jx = 15 ∨ jx = 16 := by simp at hj; omega
                        rw [(hφ jx hj).2 e]
                        rcases hj' with rfl | rfl | rfl | rfl | rfl | rfl | rfl | rfl | rfl | rfl | rfl | rfl | rfl | rfl | rfl | rfl | rfl <;> rfl)]
                    clear hφ
                    obtain ⟨iS, hiS, hS0, hS1, hS2⟩ := info_parts infoSc
                    obtain ⟨xs, hxs⟩ := HRS.out.row
                    have hxs := own_hold9 (own_hold9 hxs HBRW.out) HR.out
                    refine op_list (by rfl) ?_
                    refine wpList_append_own _ rfl _ _ 56 rfl w3.heap.size 61 iS _ 4 72 Tryz.underlying56 hiS hS0 hS1 hS2 rfl (by decide) (.slice la j lc) j xs (eval_fill2 _ _ _ 0 111 (by decide) rfl rfl) hxs ⟨g, 0, none⟩ 1 1 [.string s, .int .i64 ps.length, .slice va0 nv vc0, .slice aa0 na ac0] (eval_fill2 _ _ _ 17 128 (by decide) rfl rfl) rfl
                      (fun i u hu => by rw [addr_add0, Nat.zero_add, cell_of_heap hgh, ← hu]; simp) (by intro u hu; simp at hu; rcases hu with rfl | rfl | rfl | rfl <;> rfl) (by unfold maxLen; have := HLT.out; omega) (by have := HLT.out; omega) (Nat.le_trans HB36.out.size HR.out.size) ?_
                    intro v' w7 hown' hgrow _
                    obtain ⟨g', cap', rfl⟩ := ownsRow_succ' hown'
                    have HRN : Hid (RS w3 p.funcs p.all (j + 1) (.slice (some ⟨g', 0, none⟩) (j + 1) cap') w7) := by
                      refine RS.next (f := ⟨s, ps, bs⟩) (x := .slice va0 nv vc0) (y := .slice aa0 na ac0) HRS.out (HBRW.out.trans (HR.out.mono HBRW.out.size)) HX.out ?_ ?_ hgrow ⟨xs, hxs, hown'⟩
                      · rw [HFD.out, HNV.out]; exact own_lower (own_hold9 HOV.out HR.out) H3F.out
                      · rw [HFD.out, HNA.out]; exact own_lower (own_hold9 HOA.out HR.out) H3F.out
                    have HFN : Hid (false = (p.all.take (j + 1)).any (fun f => (f.found p.funcs).full)) := by
                      show _ = _
                      rw [any_take p.all default _ j (by rw [HNL.out]; exact HLT.out), ← HFL.out, HX.out, HFD.out]
                      unfold FS.full
                      rw [HNV.out, HNA.out]
                      simp [hv, ha]
                    have HIN : Hid (∀ i, i < j + 1 → ((p.all.getD i default).found p.funcs).fits = true) := by
                      intro i hi
                      rcases Nat.lt_or_ge i j with h | h
                      · exact HFI.out i h
                      · obtain rfl : i = j := by omega
                        rw [HX.out, HFD.out]; exact HQF.out
                    clear hown' hgrow hxs hgh hg17 hiS hS0 hS1 hS2
                    simp only [fill, fillA, List.getD_cons_zero, List.getD_cons_succ, Nat.reduceAdd, List.setIfInBounds_toArray, List.set_cons_succ, List.set_cons_zero]
                    go_wp2
                    refine withK_intro ?_
                    refine op_list (by rfl) ?_
                    go_wp2
                    refine withK_intro ?_
                    go_wp2
                    go_roundw
                    case rel => exact ⟨j + 1, _, _, _, by go_num, by omega, rfl, rfl, HRN.out, (by show (decide ((64 : Int) < nv) || decide ((64 : Int) < na)) = _; rw [decide_eq_false (show ¬ (64 : Int) < nv by omega), decide_eq_false (show ¬ (64 : Int) < na by omega)]; exact HFN.out), HIN.out⟩
                    case measure => simp [intOf]; omega
                  case hr29 => exact (Below.refl _ _).drew
        · as_aux_lemma =>
          have hjk : j = 1 + k := by omega
          have hltI : ¬ (j : Int) < 1 + (k : Int) := by omega
          have HJK := Lib.hid hjk
          have hnf : p.all.any (fun f => !(f.found p.funcs).fits) = false := any_none default (fun i hi => by
            rw [HFI.out i (by rw [← hjk] at *; rw [HNL.out] at hi; omega)]; rfl)
          have hfu := HFL.out
          rw [List.take_of_length_le (by rw [HNL.out, hjk]; exact Nat.le_refl _)] at hfu
          have hr : p.resolve = if fl then 10 else 0 := by
            unfold PT.resolve
            rw [if_pos H0.out, HDF.out, if_neg (by decide), hnf, if_neg (by decide), ← hfu]
          have hcs := HRS.out
          rw [show j = p.all.length by rw [hjk, HNL.out]] at hcs
          have hcs := hcs.csl
          rw [show p.all.length = j by rw [hjk, HNL.out]] at hcs
          have HCS := Lib.hid hcs
          have HBE : Hid (Below w.heap.size w wr) := HB3.out.trans (HRS.out.below.mono HW3.out)
          rw [HR.out] at hr
          clear hjk hnf hfu hcs
          cases fl
          · obtain rfl : r = 0 := hr
            go_wp2_with fail
            go_ret2
            exact ⟨_, rfl, HBE.out, HCS.out⟩
          · obtain rfl : r = 10 := hr
            go_wp2_with fail
            go_ret2
            exact ⟨rfl, HBE.out⟩

/-- scope.Resolve, whatever the program. -/
theorem resolve_r (a1 a2 : Option Addr) (n1 n2 k1 k2 : Nat) (p : PT) (w : World) (ht : Tab w) (hp : PR w (.slice a1 n1 k1) (.slice a2 n2 k2) p) (hN : p.nodes.length ≤ 4000000) (r : Int) (hr : p.resolve = r) :
    Calls Tryz.prog 11 #[.agg #[.slice a1 n1 k1, .slice a2 n2 k2]] w fun e w' => ∃ v, e = .returned (.tuple #[v, .int .i64 r]) ∧ Below w.heap.size w w' ∧ (r = 0 → CSl w' v p.scopes) ∧ (r ≠ 0 → v = .slice none 0 0) := by
  by_cases h0 : p.right = 0
  · exact resolve_ok a1 a2 n1 n2 k1 k2 p w ht hp h0 hN r hr
  · have e : p.resolve = p.right := by unfold PT.resolve; rw [if_neg h0]
    refine (resolve_bad a1 a2 n1 n2 k1 k2 p w ht hp r (by rw [← hr, e]) (by rw [← hr, e]; exact h0)).mono ?_
    rintro e w' ⟨rfl, hb⟩
    exact ⟨_, rfl, hb, fun h => absurd h (by rw [← hr, e]; exact h0), fun _ => rfl⟩
end Go.Proofs.YthjjcmmonjajhaaGreatDoor
