/- The walk of TreeSame. -/
import Derived.Test.YtplckmpamekloaaDoorTreeTwinLaws
import Derived.Deep.RegionHeld3
namespace Go.Proofs.YtplckmpamekloaaDoor
open Go.RowKit Go.Sort
set_option linter.unusedVariables false

set_option maxHeartbeats 8000000 in
set_option maxRecDepth 1000000 in
theorem same_core (a1 a2 : Option Addr) (n1 n2 k1 k2 : Nat) (p : PT) (i k : Int) (w : World) (ht : Tab w) (hp : PR w (.slice a1 n1 k1) (.slice a2 n2 k2) p) (hk1 : k1 ≤ 2199023255488) (hk2 : k2 ≤ 1353245080300)
    (xi xk : Int) (hxi : Go.bits .and .i64 i 65535 = xi) (hxk : Go.bits .and .i64 k 65535 = xk) (ii kk : Nat) (hii : 0 < n2 → Int.tmod xi n2 = ii ∧ ii < n2) (hkk : 0 < n2 → Int.tmod xk n2 = kk ∧ kk < n2) :
    Calls Tryd.prog 10 #[.agg #[.slice a1 n1 k1, .slice a2 n2 k2], .int .i64 i, .int .i64 k] w fun e w' => e = .returned (.bool true) ∧ Below w.heap.size w w' := by
  obtain ⟨iF, hi', hz0, hz1, hz2⟩ := info_parts infoFn
  obtain ⟨iS, hi'', hz0', hz1', hz2'⟩ := info_parts infoSt
  obtain ⟨l1, l2, l3⟩ := hp.1.len
  obtain ⟨m1, m2, m3⟩ := hp.2.len
  obtain ⟨bF, oF, ff, fg, hfr⟩ := hp.1.row
  obtain ⟨bS, oS, sf, sg, sh, hsr⟩ := hp.2.row
  have HBF : Hid (n1 * 64 ≤ 140737488355328) := by show n1 * 64 ≤ _; omega
  have HBS : Hid (n2 * 104 ≤ 140737488355328) := by show n2 * 104 ≤ _; omega
  have HL1 := Lib.hid l1
  have HL2 := Lib.hid m1
  have HFR := Lib.hid hfr
  have HSR := Lib.hid hsr
  have HT := Lib.hid ht
  have HP := Lib.hid hp
  have HII := Lib.hid hii
  have HKK := Lib.hid hkk
  have HXI := Lib.hid hxi
  have HXK := Lib.hid hxk
  clear ht hp l1 m1 hfr hsr hii hkk hxi hxk
  have HB := hb_start w
  go_enter Tryd.func10, Tryd.ntmps10
  go_upto_region 2 with (go_at_call 11; refine (shown_r _ (HT.out.below ((Below.refl _ _).alloc (Nat.le_refl _) _))).mono ?_; rintro e w1 ⟨rfl, hb⟩; have HW1 : Hid (Below w.heap.size w w1) := hb_step (by repeat (first | exact HB | refine hb_drew ?_ | refine hb_alloc ?_ _)) hb; have HT1 : Hid (Tab w1) := HT.out.below HW1.out; have HP1 : Hid (PR w1 (.slice a1 n1 k1) (.slice a2 n2 k2) p) := HP.out.stay HW1.out; have c0 := (hb.cell (p := ⟨w.heap.size, 0, none⟩) (by simp)).trans (show _ = some (Value.slice a1 n1 k1) by simp); have c1 := (hb.cell (p := ⟨w.heap.size, 1, none⟩) (by simp)).trans (show _ = some (Value.slice a2 n2 k2) by simp); have HK0 := Lib.hid c0; have HK1 := Lib.hid c1; clear HB; have HB := hb_start w1; clear hb)
  refine region_flow rfl 10 rfl (by decide +kernel) [12, 13, 14, 15, 16, 17, 18, 19, 20, 8] (by decide +kernel) rfl (by decide) (by simp) (fun w w' => Below w.heap.size w w') (fun w => Below w1.heap.size w1 w)
    (phi2 w1 w.heap.size a1 a2 p n1 k1 n2 k2 ff fg sf sg sh) (phi2_mono w1 w.heap.size a1 a2 p n1 k1 n2 k2 ff fg sf sg sh) (Below.refl _ _).drew ?_ ?_
  · intro i hi a wx hR hout hdep
    have hi10 : i = 0 ∨ i = 1 ∨ i = 2 ∨ i = 3 ∨ i = 4 ∨ i = 5 ∨ i = 6 ∨ i = 7 ∨ i = 8 ∨ i = 9 := by omega
    rcases hi10 with rfl | rfl | rfl | rfl | rfl | rfl | rfl | rfl | rfl | rfl
    · refine op_list (by rfl) ?_
      go_wp2
      exact withK_intro ⟨_, rfl, (Below.refl _ _).alloc (Nat.le_refl _) _, hR.alloc hR.size _, _, rfl⟩
    · have e3 := hout 3 (by decide)
      refine op_list (by rfl) ?_
      go_wp2
      exact withK_intro ⟨_, rfl, Below.refl _ _, hR, rfl⟩
    · obtain ⟨v, e13, rfl⟩ := hdep 1 13 (by kernel_rfl) rfl
      have y0 := cell_below (Lib.hid hR) HK0.out
      have HR := Lib.hid hR
      clear hR
      refine op_list (by rfl) ?_
      go_wp2
      exact withK_intro ⟨_, rfl, Below.refl _ _, HR.out, rfl⟩
    · obtain ⟨v, e12, b0, rfl⟩ := hdep 0 12 (by kernel_rfl) rfl
      obtain ⟨v, e14, rfl⟩ := hdep 2 14 (by kernel_rfl) rfl
      have HR := Lib.hid hR
      clear hR
      refine op_list (by rfl) ?_
      refine wpList_copy _ rfl _ _ 22 rfl 35 iF (.agg #[.string ⟨#[]⟩, .slice none 0 0, .slice none 0 0]) 3 64 Tryd.underlying22 hi' hz0 hz1 hz2 b0 (eval_of e12) a1 bF oF n1 k1 (eval_of e14) HFR.out.at_ HFR.out.max HBF.out (rowF p.funcs ff fg) (fun j hj => cell_below HR (cell_below HW1 (HFR.out.cell j hj))) HFR.out.one ?_
      intro fa fc w2 hc
      exact withK_intro ⟨_, rfl, hc.below, HR.out.trans (hc.below.mono HR.out.size), fa, fc, wx.heap.size, rfl, hc.lf HL1.out HR.out.size⟩
    · refine op_list (by rfl) ?_
      go_wp2
      exact withK_intro ⟨_, rfl, (Below.refl _ _).alloc (Nat.le_refl _) _, hR.alloc hR.size _, _, rfl⟩
    · have e3 := hout 3 (by decide)
      refine op_list (by rfl) ?_
      go_wp2
      exact withK_intro ⟨_, rfl, Below.refl _ _, hR, rfl⟩
    · obtain ⟨v, e17, rfl⟩ := hdep 5 17 (by kernel_rfl) rfl
      have y1 := cell_below (Lib.hid hR) HK1.out
      have HR := Lib.hid hR
      clear hR
      refine op_list (by rfl) ?_
      go_wp2
      exact withK_intro ⟨_, rfl, Below.refl _ _, HR.out, rfl⟩
    · obtain ⟨v, e16, b0, rfl⟩ := hdep 4 16 (by kernel_rfl) rfl
      obtain ⟨v, e18, rfl⟩ := hdep 6 18 (by kernel_rfl) rfl
      have HR := Lib.hid hR
      clear hR
      refine op_list (by rfl) ?_
      refine wpList_copy _ rfl _ _ 23 rfl 38 iS (.agg #[.int .i64 0, .string ⟨#[]⟩, .int .i64 0, .slice none 0 0, .slice none 0 0, .slice none 0 0]) 6 104 Tryd.underlying23 hi'' hz0' hz1' hz2' b0 (eval_of e16) a2 bS oS n2 k2 (eval_of e18) HSR.out.at_ HSR.out.max HBS.out (rowC p.main sf sg sh) (fun j hj => cell_below HR (cell_below HW1 (HSR.out.cell j hj))) HSR.out.one ?_
      intro fa fc w2 hc
      exact withK_intro ⟨_, rfl, hc.below, HR.out.trans (hc.below.mono HR.out.size), fa, fc, wx.heap.size, rfl, hc.lm HL2.out HR.out.size⟩
    · obtain ⟨v, e15, fa, fc, gf, rfl, hF⟩ := hdep 3 15 (by kernel_rfl) rfl
      obtain ⟨v, e19, ma, mc, gm, rfl, hS⟩ := hdep 7 19 (by kernel_rfl) rfl
      have HF := Lib.hid hF
      have HS := Lib.hid hS
      have HR := Lib.hid hR
      clear hR hF hS
      refine op_list (by rfl) ?_
      go_wp2
      exact withK_intro ⟨_, rfl, Below.refl _ _, HR.out, fa, fc, gf, ma, mc, gm, rfl, HF.out, HS.out⟩
    · refine op_list (by rfl) ?_
      go_wp2
      exact withK_intro ⟨_, rfl, (Below.refl _ _).alloc (Nat.le_refl _) _, hR.alloc hR.size _, _, rfl, hR.size, heap_new_eq _ _ _ rfl⟩
  · intro vs wx hR hφ
    obtain ⟨fa, fc, gf, ma, mc, gm, e8, hF, hS⟩ := hφ 8 (by decide)
    obtain ⟨g, e9, hge, hg⟩ := hφ 9 (by decide)
    have HT2 := Lib.hid (twin_set hF hS hg hge hR)
    have z0 := free_of_heap hg 0
    have z1 := free_of_heap hg 1
    have y0 := cell_of_heap hg 0
    have y1 := cell_of_heap hg 1
    simp only [List.getElem?_toArray, List.getElem?_cons_succ, List.getElem?_cons_zero] at y0 y1
    clear hF hS hg hge hR hφ
    refine op_list (by rfl) ?_
    simp only [fill, fillA, e8, e9, Nat.reduceAdd]
    generalize vs 0 = v12
    generalize vs 1 = v13
    generalize vs 2 = v14
    generalize vs 3 = v15
    generalize vs 4 = v16
    generalize vs 5 = v17
    generalize vs 6 = v18
    generalize vs 7 = v19
    clear e8 e9
    go_wp2
    refine withK_intro ?_
    have hW2 := HT2.out
    generalize (wx.setCell ⟨g, 0, none⟩ (.slice fa n1 fc)).setCell ⟨g, 1, none⟩ (.slice ma n2 mc) = W2 at HT2 hW2 ⊢
    have HY0 := Lib.hid (cell_below (Lib.hid hW2.below) HK0.out)
    have HY1 := Lib.hid (cell_below (Lib.hid hW2.below) HK1.out)
    have HG0 : Hid (W2.cell? ⟨g, 0, none⟩ = some (.slice fa n1 fc)) := cell_of_heap hW2.box 0
    have HG1 : Hid (W2.cell? ⟨g, 1, none⟩ = some (.slice ma n2 mc)) := cell_of_heap hW2.box 1
    have HT2b : Hid (Tab W2) := HT1.out.below hW2.below
    have HP2 : Hid (PR W2 (.slice a1 n1 k1) (.slice a2 n2 k2) p) := HP1.out.stay hW2.below
    have hWW : Below w.heap.size w W2 := HW1.out.trans (hW2.below.mono HW1.out.size)
    have HQ2 : Hid (PR W2 (.slice fa n1 fc) (.slice ma n2 mc) p) := PR.of (copy_fsl HFR.out hWW hW2.lef hW2.maxf hW2.fs) (copy_ssl HSR.out hWW hW2.lem hW2.maxm hW2.ms)
    have HSM : Hid (PT.same p p = true) := PT.same_refl p
    obtain ⟨r, hr⟩ : ∃ r, p.right = r := ⟨_, rfl⟩
    obtain ⟨dp, hdp⟩ : ∃ d, p.depth = d := ⟨_, rfl⟩
    obtain ⟨sz, hsz⟩ : ∃ s, p.size = s := ⟨_, rfl⟩
    have HRI := Lib.hid hr
    have HDE := Lib.hid hdp
    have HSI := Lib.hid hsz
    have HB2 : Hid (Below w1.heap.size w1 W2) := hW2.below
    clear hWW hW2 hr hdp hsz y0 y1 z0 z1 c0 c1 HB
    go_wp2_with fail
    refine region_flow rfl 24 rfl (by decide +kernel) [21, 22, 23, 24, 25, 26, 27, 28, 29, 30, 31, 32, 33, 34, 35, 36, 37, 38, 39, 40, 41, 42, 43, 44] (by decide +kernel) rfl (by decide) (by simp) (fun w w' => Below w.heap.size w w') (fun w => Below W2.heap.size W2 w)
      (fun j v _ => v = ([.agg #[.slice a1 n1 k1, .slice a2 n2 k2], .agg #[.slice fa n1 fc, .slice ma n2 mc], .bool true, .bool false, .bool false, .agg #[.slice a1 n1 k1, .slice a2 n2 k2], .int .i64 r, .agg #[.slice fa n1 fc, .slice ma n2 mc], .int .i64 r, .bool false, .bool false, .bool false, .agg #[.slice a1 n1 k1, .slice a2 n2 k2], .int .i64 dp, .agg #[.slice fa n1 fc, .slice ma n2 mc], .int .i64 dp, .bool false, .bool false, .bool false, .agg #[.slice a1 n1 k1, .slice a2 n2 k2], .int .i64 sz, .agg #[.slice fa n1 fc, .slice ma n2 mc], .int .i64 sz, .bool false] : List Value).getD j undef) (fun _ _ _ _ _ h => h) ?hr3 ?hs3 ?hl3
    case hs3 =>
      intro ix hix a wx hR hout hdep
      have hix' : ix = 0 ∨ ix = 1 ∨ ix = 2 ∨ ix = 3 ∨ ix = 4 ∨ ix = 5 ∨ ix = 6 ∨ ix = 7 ∨ ix = 8 ∨ ix = 9 ∨ ix = 10 ∨ ix = 11 ∨ ix = 12 ∨ ix = 13 ∨ ix = 14 ∨ ix = 15 ∨ ix = 16 ∨ ix = 17 ∨ ix = 18 ∨ ix = 19 ∨ ix = 20 ∨ ix = 21 ∨ ix = 22 ∨ ix = 23 := by omega
      rcases hix' with rfl | rfl | rfl | rfl | rfl | rfl | rfl | rfl | rfl | rfl | rfl | rfl | rfl | rfl | rfl | rfl | rfl | rfl | rfl | rfl | rfl | rfl | rfl | rfl
      · have HR := Lib.hid hR
        clear hR
        have e3 := hout 3 (by decide)
        have z0 := cell_below HR HY0.out
        have z1 := cell_below HR HY1.out
        clear hout hdep
        refine op_list (by rfl) ?_
        go_wp2
        exact withK_intro ⟨_, rfl, Below.refl _ _, HR.out, rfl⟩
      · have HR := Lib.hid hR
        clear hR
        have e8 := hout 8 (by decide)
        have z0 := cell_below HR HG0.out
        have z1 := cell_below HR HG1.out
        clear hout hdep
        refine op_list (by rfl) ?_
        go_wp2
        exact withK_intro ⟨_, rfl, Below.refl _ _, HR.out, rfl⟩
      · have HR := Lib.hid hR
        clear hR
        have e21 : a.tmps[21]? = some (.agg #[.slice a1 n1 k1, .slice a2 n2 k2]) := flow_dep hdep 0 21 (by kernel_rfl) rfl
        have e22 : a.tmps[22]? = some (.agg #[.slice fa n1 fc, .slice ma n2 mc]) := flow_dep hdep 1 22 (by kernel_rfl) rfl
        clear hout hdep
        refine op_list (by rfl) ?_
        go_wp2_with (go_at_call 18; refine (equal_r a1 a2 n1 n2 k1 k2 fa ma n1 n2 fc mc p p _ (HP2.out.stay HR.out) (HQ2.out.stay HR.out) true HSM.out).mono ?_; rintro e w' ⟨rfl, hb⟩; have HBc := Lib.hid hb; clear hb)
        exact withK_intro ⟨_, rfl, HBc.out, HR.out.trans (HBc.out.mono HR.out.size), rfl⟩
      · have HR := Lib.hid hR
        clear hR
        have e23 : a.tmps[23]? = some (.bool true) := flow_dep hdep 2 23 (by kernel_rfl) rfl
        clear hout hdep
        refine op_list (by rfl) ?_
        go_wp2
        exact withK_intro ⟨_, rfl, Below.refl _ _, HR.out, rfl⟩
      · have HR := Lib.hid hR
        clear hR
        have e24 : a.tmps[24]? = some (.bool false) := flow_dep hdep 3 24 (by kernel_rfl) rfl
        clear hout hdep
        refine op_list (by rfl) ?_
        go_wp2
        exact withK_intro ⟨_, rfl, Below.refl _ _, HR.out, rfl⟩
      · have HR := Lib.hid hR
        clear hR
        have e3 := hout 3 (by decide)
        have e25 : a.tmps[25]? = some (.bool false) := flow_dep hdep 4 25 (by kernel_rfl) rfl
        have z0 := cell_below HR HY0.out
        have z1 := cell_below HR HY1.out
        clear hout hdep
        refine op_list (by rfl) ?_
        go_wp2
        exact withK_intro ⟨_, rfl, Below.refl _ _, HR.out, rfl⟩
      · have HR := Lib.hid hR
        clear hR
        have e26 : a.tmps[26]? = some (.agg #[.slice a1 n1 k1, .slice a2 n2 k2]) := flow_dep hdep 5 26 (by kernel_rfl) rfl
        have e25 : a.tmps[25]? = some (.bool false) := flow_dep hdep 4 25 (by kernel_rfl) rfl
        clear hout hdep
        refine op_list (by rfl) ?_
        go_wp2_with (go_at_call 12; refine (right_r a1 a2 n1 n2 k1 k2 p _ (HT2b.out.below HR.out) (HP2.out.stay HR.out) _ HRI.out).mono ?_; rintro e w' ⟨rfl, hb⟩; have HBc := Lib.hid hb; clear hb)
        exact withK_intro ⟨_, rfl, HBc.out, HR.out.trans (HBc.out.mono HR.out.size), rfl⟩
      · have HR := Lib.hid hR
        clear hR
        have e8 := hout 8 (by decide)
        have e25 : a.tmps[25]? = some (.bool false) := flow_dep hdep 4 25 (by kernel_rfl) rfl
        have z0 := cell_below HR HG0.out
        have z1 := cell_below HR HG1.out
        clear hout hdep
        refine op_list (by rfl) ?_
        go_wp2
        exact withK_intro ⟨_, rfl, Below.refl _ _, HR.out, rfl⟩
      · have HR := Lib.hid hR
        clear hR
        have e28 : a.tmps[28]? = some (.agg #[.slice fa n1 fc, .slice ma n2 mc]) := flow_dep hdep 7 28 (by kernel_rfl) rfl
        have e25 : a.tmps[25]? = some (.bool false) := flow_dep hdep 4 25 (by kernel_rfl) rfl
        clear hout hdep
        refine op_list (by rfl) ?_
        go_wp2_with (go_at_call 12; refine (right_r fa ma n1 n2 fc mc p _ (HT2b.out.below HR.out) (HQ2.out.stay HR.out) _ HRI.out).mono ?_; rintro e w' ⟨rfl, hb⟩; have HBc := Lib.hid hb; clear hb)
        exact withK_intro ⟨_, rfl, HBc.out, HR.out.trans (HBc.out.mono HR.out.size), rfl⟩
      · have HR := Lib.hid hR
        clear hR
        have e27 : a.tmps[27]? = some (.int .i64 r) := flow_dep hdep 6 27 (by kernel_rfl) rfl
        have e29 : a.tmps[29]? = some (.int .i64 r) := flow_dep hdep 8 29 (by kernel_rfl) rfl
        have e25 : a.tmps[25]? = some (.bool false) := flow_dep hdep 4 25 (by kernel_rfl) rfl
        clear hout hdep
        refine op_list (by rfl) ?_
        go_wp2
        exact withK_intro ⟨_, rfl, Below.refl _ _, HR.out, rfl⟩
      · have HR := Lib.hid hR
        clear hR
        have e25 : a.tmps[25]? = some (.bool false) := flow_dep hdep 4 25 (by kernel_rfl) rfl
        have e30 : a.tmps[30]? = some (.bool false) := flow_dep hdep 9 30 (by kernel_rfl) rfl
        clear hout hdep
        refine op_list (by rfl) ?_
        go_wp2
        exact withK_intro ⟨_, rfl, Below.refl _ _, HR.out, rfl⟩
      · have HR := Lib.hid hR
        clear hR
        have e31 : a.tmps[31]? = some (.bool false) := flow_dep hdep 10 31 (by kernel_rfl) rfl
        clear hout hdep
        refine op_list (by rfl) ?_
        go_wp2
        exact withK_intro ⟨_, rfl, Below.refl _ _, HR.out, rfl⟩
      · have HR := Lib.hid hR
        clear hR
        have e3 := hout 3 (by decide)
        have e32 : a.tmps[32]? = some (.bool false) := flow_dep hdep 11 32 (by kernel_rfl) rfl
        have z0 := cell_below HR HY0.out
        have z1 := cell_below HR HY1.out
        clear hout hdep
        refine op_list (by rfl) ?_
        go_wp2
        exact withK_intro ⟨_, rfl, Below.refl _ _, HR.out, rfl⟩
      · have HR := Lib.hid hR
        clear hR
        have e33 : a.tmps[33]? = some (.agg #[.slice a1 n1 k1, .slice a2 n2 k2]) := flow_dep hdep 12 33 (by kernel_rfl) rfl
        have e32 : a.tmps[32]? = some (.bool false) := flow_dep hdep 11 32 (by kernel_rfl) rfl
        clear hout hdep
        refine op_list (by rfl) ?_
        go_wp2_with (go_at_call 14; refine (depth_r a1 a2 n1 n2 k1 k2 p _ (HT2b.out.below HR.out) (HP2.out.stay HR.out) _ HDE.out).mono ?_; rintro e w' ⟨rfl, hb⟩; have HBc := Lib.hid hb; clear hb)
        exact withK_intro ⟨_, rfl, HBc.out, HR.out.trans (HBc.out.mono HR.out.size), rfl⟩
      · have HR := Lib.hid hR
        clear hR
        have e8 := hout 8 (by decide)
        have e32 : a.tmps[32]? = some (.bool false) := flow_dep hdep 11 32 (by kernel_rfl) rfl
        have z0 := cell_below HR HG0.out
        have z1 := cell_below HR HG1.out
        clear hout hdep
        refine op_list (by rfl) ?_
        go_wp2
        exact withK_intro ⟨_, rfl, Below.refl _ _, HR.out, rfl⟩
      · have HR := Lib.hid hR
        clear hR
        have e35 : a.tmps[35]? = some (.agg #[.slice fa n1 fc, .slice ma n2 mc]) := flow_dep hdep 14 35 (by kernel_rfl) rfl
        have e32 : a.tmps[32]? = some (.bool false) := flow_dep hdep 11 32 (by kernel_rfl) rfl
        clear hout hdep
        refine op_list (by rfl) ?_
        go_wp2_with (go_at_call 14; refine (depth_r fa ma n1 n2 fc mc p _ (HT2b.out.below HR.out) (HQ2.out.stay HR.out) _ HDE.out).mono ?_; rintro e w' ⟨rfl, hb⟩; have HBc := Lib.hid hb; clear hb)
        exact withK_intro ⟨_, rfl, HBc.out, HR.out.trans (HBc.out.mono HR.out.size), rfl⟩
      · have HR := Lib.hid hR
        clear hR
        have e34 : a.tmps[34]? = some (.int .i64 dp) := flow_dep hdep 13 34 (by kernel_rfl) rfl
        have e36 : a.tmps[36]? = some (.int .i64 dp) := flow_dep hdep 15 36 (by kernel_rfl) rfl
        have e32 : a.tmps[32]? = some (.bool false) := flow_dep hdep 11 32 (by kernel_rfl) rfl
        clear hout hdep
        refine op_list (by rfl) ?_
        go_wp2
        exact withK_intro ⟨_, rfl, Below.refl _ _, HR.out, rfl⟩
      · have HR := Lib.hid hR
        clear hR
        have e32 : a.tmps[32]? = some (.bool false) := flow_dep hdep 11 32 (by kernel_rfl) rfl
        have e37 : a.tmps[37]? = some (.bool false) := flow_dep hdep 16 37 (by kernel_rfl) rfl
        clear hout hdep
        refine op_list (by rfl) ?_
        go_wp2
        exact withK_intro ⟨_, rfl, Below.refl _ _, HR.out, rfl⟩
      · have HR := Lib.hid hR
        clear hR
        have e38 : a.tmps[38]? = some (.bool false) := flow_dep hdep 17 38 (by kernel_rfl) rfl
        clear hout hdep
        refine op_list (by rfl) ?_
        go_wp2
        exact withK_intro ⟨_, rfl, Below.refl _ _, HR.out, rfl⟩
      · have HR := Lib.hid hR
        clear hR
        have e3 := hout 3 (by decide)
        have e39 : a.tmps[39]? = some (.bool false) := flow_dep hdep 18 39 (by kernel_rfl) rfl
        have z0 := cell_below HR HY0.out
        have z1 := cell_below HR HY1.out
        clear hout hdep
        refine op_list (by rfl) ?_
        go_wp2
        exact withK_intro ⟨_, rfl, Below.refl _ _, HR.out, rfl⟩
      · have HR := Lib.hid hR
        clear hR
        have e40 : a.tmps[40]? = some (.agg #[.slice a1 n1 k1, .slice a2 n2 k2]) := flow_dep hdep 19 40 (by kernel_rfl) rfl
        have e39 : a.tmps[39]? = some (.bool false) := flow_dep hdep 18 39 (by kernel_rfl) rfl
        clear hout hdep
        refine op_list (by rfl) ?_
        go_wp2_with (go_at_call 16; refine (size_r a1 a2 n1 n2 k1 k2 p _ (HT2b.out.below HR.out) (HP2.out.stay HR.out) _ HSI.out).mono ?_; rintro e w' ⟨rfl, hb⟩; have HBc := Lib.hid hb; clear hb)
        exact withK_intro ⟨_, rfl, HBc.out, HR.out.trans (HBc.out.mono HR.out.size), rfl⟩
      · have HR := Lib.hid hR
        clear hR
        have e8 := hout 8 (by decide)
        have e39 : a.tmps[39]? = some (.bool false) := flow_dep hdep 18 39 (by kernel_rfl) rfl
        have z0 := cell_below HR HG0.out
        have z1 := cell_below HR HG1.out
        clear hout hdep
        refine op_list (by rfl) ?_
        go_wp2
        exact withK_intro ⟨_, rfl, Below.refl _ _, HR.out, rfl⟩
      · have HR := Lib.hid hR
        clear hR
        have e42 : a.tmps[42]? = some (.agg #[.slice fa n1 fc, .slice ma n2 mc]) := flow_dep hdep 21 42 (by kernel_rfl) rfl
        have e39 : a.tmps[39]? = some (.bool false) := flow_dep hdep 18 39 (by kernel_rfl) rfl
        clear hout hdep
        refine op_list (by rfl) ?_
        go_wp2_with (go_at_call 16; refine (size_r fa ma n1 n2 fc mc p _ (HT2b.out.below HR.out) (HQ2.out.stay HR.out) _ HSI.out).mono ?_; rintro e w' ⟨rfl, hb⟩; have HBc := Lib.hid hb; clear hb)
        exact withK_intro ⟨_, rfl, HBc.out, HR.out.trans (HBc.out.mono HR.out.size), rfl⟩
      · have HR := Lib.hid hR
        clear hR
        have e41 : a.tmps[41]? = some (.int .i64 sz) := flow_dep hdep 20 41 (by kernel_rfl) rfl
        have e43 : a.tmps[43]? = some (.int .i64 sz) := flow_dep hdep 22 43 (by kernel_rfl) rfl
        have e39 : a.tmps[39]? = some (.bool false) := flow_dep hdep 18 39 (by kernel_rfl) rfl
        clear hout hdep
        refine op_list (by rfl) ?_
        go_wp2
        exact withK_intro ⟨_, rfl, Below.refl _ _, HR.out, rfl⟩
    case hl3 =>
      intro vs wx hR hφ
      have HR := Lib.hid hR
      clear hR
      rw [fill_congr _ [21, 22, 23, 24, 25, 26, 27, 28, 29, 30, 31, 32, 33, 34, 35, 36, 37, 38, 39, 40, 41, 42, 43, 44] vs (fun j => ([.agg #[.slice a1 n1 k1, .slice a2 n2 k2], .agg #[.slice fa n1 fc, .slice ma n2 mc], .bool true, .bool false, .bool false, .agg #[.slice a1 n1 k1, .slice a2 n2 k2], .int .i64 r, .agg #[.slice fa n1 fc, .slice ma n2 mc], .int .i64 r, .bool false, .bool false, .bool false, .agg #[.slice a1 n1 k1, .slice a2 n2 k2], .int .i64 dp, .agg #[.slice fa n1 fc, .slice ma n2 mc], .int .i64 dp, .bool false, .bool false, .bool false, .agg #[.slice a1 n1 k1, .slice a2 n2 k2], .int .i64 sz, .agg #[.slice fa n1 fc, .slice ma n2 mc], .int .i64 sz, .bool false] : List Value).getD j undef) (fun j hj => hφ j hj)]
      clear hφ vs
      refine op_list (by rfl) ?_
      simp only [fill, fillA, List.getD_cons_zero, List.getD_cons_succ, Nat.reduceAdd]
      go_wp2_with fail
      refine withK_intro ?_
      have x1 := cell_below HR HY1.out
      have v1 := cell_below HR HG1.out
      by_cases hn : n2 = 0
      · have h0 : ((n2 : Int) == 0) = true := by simp [hn]
        clear hn v1
        go_wp2
        go_ret
        exact ⟨rfl, HW1.out.trans ((HB2.out.trans (HR.out.mono HB2.out.size)).mono HW1.out.size)⟩
      · have h0 : ((n2 : Int) == 0) = false := by simp; omega
        have hpos : 0 < n2 := by omega
        clear hn
        obtain ⟨hmi, hil⟩ := HII.out hpos
        obtain ⟨hmk, hkl⟩ := HKK.out hpos
        obtain ⟨rfl, hrow⟩ := HT2.out.ms hpos
        have hxi := HXI.out
        have hxk := HXK.out
        have hlem := HT2.out.lem
        have hmaxm : mc ≤ 9223372036854775807 := HT2.out.maxm
        have HROW := Lib.hid (hrow.stay HR.out)
        have hl2 := HL2.out
        obtain ⟨r0, r1, r2, r3, r4, r5⟩ := row_at HROW.out ii (by omega)
        obtain ⟨ia3, in3, ic3, hi3⟩ := shape3 (HSR.out.es ii hil)
        obtain ⟨ia4, in4, ic4, hi4⟩ := shapeS (HSR.out.bs ii hil)
        obtain ⟨ia5, in5, ic5, hi5⟩ := shapeS (HSR.out.xs ii hil)
        rw [hi3] at r3
        rw [hi4] at r4
        rw [hi5] at r5
        obtain ⟨io, hio⟩ : ∃ o, (p.main.getD ii default).op = o := ⟨_, rfl⟩
        obtain ⟨is, his⟩ : ∃ o, (p.main.getD ii default).name = o := ⟨_, rfl⟩
        obtain ⟨im, him⟩ : ∃ o, (p.main.getD ii default).num = o := ⟨_, rfl⟩
        rw [hio] at r0
        rw [his] at r1
        rw [him] at r2
        have HIO := Lib.hid (And.intro hio (And.intro his him))
        have HI := Lib.hid (And.intro hi3 (And.intro hi4 hi5))
        have HGX : Hid (gm ≠ wx.heap.size) := by obtain ⟨_, hk, _⟩ := HROW.out; have := lt_of_heap hk; show gm ≠ _; omega
        clear hi3 hi4 hi5 hio his him
        clear hrow hl2
        go_wp2

        have HR2 : Hid (Below W2.heap.size W2 wx) := HR
        have hA : Below wx.heap.size wx (wx.alloc (.cells #[.int .i64 io, .string is, .int .i64 im, .slice ia3 in3 ic3, .slice ia4 in4 ic4, .slice ia5 in5 ic5] 38)) := (Below.refl _ _).alloc (Nat.le_refl _) _
        have HXB := Lib.hid (World.alloc_heap_new wx (.cells #[.int .i64 io, .string is, .int .i64 im, .slice ia3 in3 ic3, .slice ia4 in4 ic4, .slice ia5 in5 ic5] 38))
        have HB3 : Hid (Below W2.heap.size W2 _) := HR.out.trans (hA.mono HR.out.size)
        have HROW3 := Lib.hid (HROW.out.stay hA)
        have HL3 := Lib.hid hA
        generalize wx.alloc (.cells #[.int .i64 io, .string is, .int .i64 im, .slice ia3 in3 ic3, .slice ia4 in4 ic4, .slice ia5 in5 ic5] 38) = W3 at hA HXB HB3 HROW3 HL3 ⊢
        clear hA HR x1 v1 r0 r1 r2 r3 r4 r5 HROW
        have HG3 := Lib.hid (cell_below HB3 HG1.out)
        have hl2 := HL2.out
        obtain ⟨s0, s1, s2, s3, s4, s5⟩ := row_at HROW3.out kk (by omega)
        obtain ⟨ka3, kn3, kc3, hk3⟩ := shape3 (HSR.out.es kk hkl)
        obtain ⟨ka4, kn4, kc4, hk4⟩ := shapeS (HSR.out.bs kk hkl)
        obtain ⟨ka5, kn5, kc5, hk5⟩ := shapeS (HSR.out.xs kk hkl)
        rw [hk3] at s3
        rw [hk4] at s4
        rw [hk5] at s5
        have HKS := Lib.hid (And.intro hk3 (And.intro hk4 hk5))
        obtain ⟨ko, hko⟩ : ∃ o, (p.main.getD kk default).op = o := ⟨_, rfl⟩
        obtain ⟨ks, hks⟩ : ∃ o, (p.main.getD kk default).name = o := ⟨_, rfl⟩
        obtain ⟨km, hkm⟩ : ∃ o, (p.main.getD kk default).num = o := ⟨_, rfl⟩
        rw [hko] at s0
        rw [hks] at s1
        rw [hkm] at s2
        have HKO := Lib.hid (And.intro hko (And.intro hks hkm))
        have HS0 := Lib.hid s0
        have HS1 := Lib.hid s1
        have HS2 := Lib.hid s2
        have HS3 := Lib.hid s3
        have HS4 := Lib.hid s4
        have HS5 := Lib.hid s5
        clear hl2 s0 s1 s2 s3 s4 s5 hk3 hk4 hk5 hko hks hkm
        refine region_flow rfl 9 rfl (by decide +kernel) [68, 69, 70, 71, 72, 73, 74, 75, 76] (by decide +kernel) rfl (by decide) (by simp) (fun w w' => Below w.heap.size w w') (fun w => Below W3.heap.size W3 w)
          (fun j v _ => v = ([.pointer (some ⟨g, 1, none⟩), .slice (some ⟨gm, 0, none⟩) n2 mc, .int .i64 (ii : Int), .pointer (some ⟨g, 1, none⟩), .slice (some ⟨gm, 0, none⟩) n2 mc, .int .i64 (kk : Int), .pointer (some ⟨gm, kk * 6, none⟩), .agg #[.int .i64 ko, .string ks, .int .i64 km, .slice ka3 kn3 kc3, .slice ka4 kn4 kc4, .slice ka5 kn5 kc5], .pointer (some ⟨gm, ii * 6, none⟩)] : List Value).getD j undef) (fun _ _ _ _ _ h => h) ?hr10 ?hs10 ?hl10
        case hs10 =>
          intro ix hix a wx hR hout hdep
          have hix' : ix = 0 ∨ ix = 1 ∨ ix = 2 ∨ ix = 3 ∨ ix = 4 ∨ ix = 5 ∨ ix = 6 ∨ ix = 7 ∨ ix = 8 := by omega
          rcases hix' with rfl | rfl | rfl | rfl | rfl | rfl | rfl | rfl | rfl
          · have HR := Lib.hid hR
            clear hR
            have e8 := hout 8 (by decide)
            clear hout hdep
            refine op_list (by rfl) ?_
            go_wp2
            exact withK_intro ⟨_, rfl, Below.refl _ _, HR.out, rfl⟩
          · have HR := Lib.hid hR
            clear hR
            have e68 : a.tmps[68]? = some (.pointer (some ⟨g, 1, none⟩)) := flow_dep hdep 0 68 (by kernel_rfl) rfl
            have z1 := cell_below HR HG3.out
            clear hout hdep
            refine op_list (by rfl) ?_
            go_wp2
            exact withK_intro ⟨_, rfl, Below.refl _ _, HR.out, rfl⟩
          · have HR := Lib.hid hR
            clear hR
            have e1 := hout 1 (by decide)
            clear hout hdep
            refine op_list (by rfl) ?_
            go_wp2
            exact withK_intro ⟨_, rfl, Below.refl _ _, HR.out, rfl⟩
          · have HR := Lib.hid hR
            clear hR
            have e8 := hout 8 (by decide)
            clear hout hdep
            refine op_list (by rfl) ?_
            go_wp2
            exact withK_intro ⟨_, rfl, Below.refl _ _, HR.out, rfl⟩
          · have HR := Lib.hid hR
            clear hR
            have e71 : a.tmps[71]? = some (.pointer (some ⟨g, 1, none⟩)) := flow_dep hdep 3 71 (by kernel_rfl) rfl
            have z1 := cell_below HR HG3.out
            clear hout hdep
            refine op_list (by rfl) ?_
            go_wp2
            exact withK_intro ⟨_, rfl, Below.refl _ _, HR.out, rfl⟩
          · have HR := Lib.hid hR
            clear hR
            have e2 := hout 2 (by decide)
            clear hout hdep
            refine op_list (by rfl) ?_
            go_wp2
            exact withK_intro ⟨_, rfl, Below.refl _ _, HR.out, rfl⟩
          · have HR := Lib.hid hR
            clear hR
            have e72 : a.tmps[72]? = some (.slice (some ⟨gm, 0, none⟩) n2 mc) := flow_dep hdep 4 72 (by kernel_rfl) rfl
            have e73 : a.tmps[73]? = some (.int .i64 (kk : Int)) := flow_dep hdep 5 73 (by kernel_rfl) rfl
            clear hout hdep
            refine op_list (by rfl) ?_
            go_wp2
            exact withK_intro ⟨_, rfl, Below.refl _ _, HR.out, rfl⟩
          · have HR := Lib.hid hR
            clear hR
            have e74 : a.tmps[74]? = some (.pointer (some ⟨gm, kk * 6, none⟩)) := flow_dep hdep 6 74 (by kernel_rfl) rfl
            have s0 := cell_below HR HS0.out
            have s1 := cell_below HR HS1.out
            have s2 := cell_below HR HS2.out
            have s3 := cell_below HR HS3.out
            have s4 := cell_below HR HS4.out
            have s5 := cell_below HR HS5.out
            clear hout hdep
            refine op_list (by rfl) ?_
            go_wp2
            exact withK_intro ⟨_, rfl, Below.refl _ _, HR.out, rfl⟩
          · have HR := Lib.hid hR
            clear hR
            have e69 : a.tmps[69]? = some (.slice (some ⟨gm, 0, none⟩) n2 mc) := flow_dep hdep 1 69 (by kernel_rfl) rfl
            have e70 : a.tmps[70]? = some (.int .i64 (ii : Int)) := flow_dep hdep 2 70 (by kernel_rfl) rfl
            clear hout hdep
            refine op_list (by rfl) ?_
            go_wp2
            exact withK_intro ⟨_, rfl, Below.refl _ _, HR.out, rfl⟩
        case hl10 =>
          intro vs wx hR hφ
          have HR := Lib.hid hR
          clear hR
          rw [fill_congr _ [68, 69, 70, 71, 72, 73, 74, 75, 76] vs (fun j => ([.pointer (some ⟨g, 1, none⟩), .slice (some ⟨gm, 0, none⟩) n2 mc, .int .i64 (ii : Int), .pointer (some ⟨g, 1, none⟩), .slice (some ⟨gm, 0, none⟩) n2 mc, .int .i64 (kk : Int), .pointer (some ⟨gm, kk * 6, none⟩), .agg #[.int .i64 ko, .string ks, .int .i64 km, .slice ka3 kn3 kc3, .slice ka4 kn4 kc4, .slice ka5 kn5 kc5], .pointer (some ⟨gm, ii * 6, none⟩)] : List Value).getD j undef) (fun j hj => hφ j hj)]
          clear hφ vs
          refine op_list (by rfl) ?_
          simp only [fill, fillA, List.getD_cons_zero, List.getD_cons_succ, Nat.reduceAdd]
          have HV := Lib.hid (HROW3.out.stay HR.out).rowV
          have hl2 := HL2.out
          have q0 := HV.out.cell (ii * 6) (by omega)
          have q1 := HV.out.cell (ii * 6 + 1) (by omega)
          have q2 := HV.out.cell (ii * 6 + 2) (by omega)
          have q3 := HV.out.cell (ii * 6 + 3) (by omega)
          have q4 := HV.out.cell (ii * 6 + 4) (by omega)
          have q5 := HV.out.cell (ii * 6 + 5) (by omega)
          have u0 := HV.out.free (ii * 6)
          have u1 := HV.out.free (ii * 6 + 1)
          have u2 := HV.out.free (ii * 6 + 2)
          have u3 := HV.out.free (ii * 6 + 3)
          have u4 := HV.out.free (ii * 6 + 4)
          have u5 := HV.out.free (ii * 6 + 5)
          clear hl2
          go_wp2_with fail
          change withK _ _ _ _ (set6 wx gm (ii * 6) (.int .i64 ko) (.string ks) (.int .i64 km) (.slice ka3 kn3 kc3) (.slice ka4 kn4 kc4) (.slice ka5 kn5 kc5))
          clear q0 q1 q2 q3 q4 q5 u0 u1 u2 u3 u4 u5
          have HV4 := Lib.hid (HV.out.set6 ii (by have := HL2.out; omega) (.int .i64 ko) (.string ks) (.int .i64 km) (.slice ka3 kn3 kc3) (.slice ka4 kn4 kc4) (.slice ka5 kn5 kc5))
          have hgr := set6_grown wx gm (ii * 6) (.int .i64 ko) (.string ks) (.int .i64 km) (.slice ka3 kn3 kc3) (.slice ka4 kn4 kc4) (.slice ka5 kn5 kc5)
          generalize set6 wx gm (ii * 6) (.int .i64 ko) (.string ks) (.int .i64 km) (.slice ka3 kn3 kc3) (.slice ka4 kn4 kc4) (.slice ka5 kn5 kc5) = W4 at HV4 hgr ⊢
          have hneg := HT2.out.neg hpos
          have hgem := HT2.out.gem
          have hBx : Below w1.heap.size w1 wx := HB2.out.trans ((HB3.out.trans (HR.out.mono HB3.out.size)).mono HB2.out.size)
          have HB4 : Hid (Below w1.heap.size w1 W4) := hBx.grown hgr hBx.size (fun r e => by cases e; exact hgem)
          have hx4 := own_of_grown ((HR.out.block _ (lt_of_heap HXB.out)).trans HXB.out) hgr (by intro e; cases e; exact HGX.out rfl)
          have HX4 := Lib.hid hx4
          have HG04 : Hid (W4.cell? ⟨g, 0, none⟩ = some (.slice fa n1 fc)) := (grown_cell hgr (fun e => hneg (by cases e; rfl)) (cell_below HR (cell_below HB3 HG0.out)))
          have HG14 : Hid (W4.cell? ⟨g, 1, none⟩ = some (.slice (some ⟨gm, 0, none⟩) n2 mc)) := (grown_cell hgr (fun e => hneg (by cases e; rfl)) (cell_below HR HG3.out))
          have z1 := HG14.out
          have o0 := cell_of_heap hx4 0
          have o1 := cell_of_heap hx4 1
          have o2 := cell_of_heap hx4 2
          have o3 := cell_of_heap hx4 3
          have o4 := cell_of_heap hx4 4
          have o5 := cell_of_heap hx4 5
          simp only [List.getElem?_toArray, List.getElem?_cons_succ, List.getElem?_cons_zero] at o0 o1 o2 o3 o4 o5
          have hl2 := HL2.out
          have q0 := HV4.out.cell (kk * 6) (by omega)
          have q1 := HV4.out.cell (kk * 6 + 1) (by omega)
          have q2 := HV4.out.cell (kk * 6 + 2) (by omega)
          have q3 := HV4.out.cell (kk * 6 + 3) (by omega)
          have q4 := HV4.out.cell (kk * 6 + 4) (by omega)
          have q5 := HV4.out.cell (kk * 6 + 5) (by omega)
          generalize (if (kk * 6) / 6 = ii then _ else _) = Q0 at q0
          generalize (if (kk * 6 + 1) / 6 = ii then _ else _) = Q1 at q1
          generalize (if (kk * 6 + 2) / 6 = ii then _ else _) = Q2 at q2
          generalize (if (kk * 6 + 3) / 6 = ii then _ else _) = Q3 at q3
          generalize (if (kk * 6 + 4) / 6 = ii then _ else _) = Q4 at q4
          generalize (if (kk * 6 + 5) / 6 = ii then _ else _) = Q5 at q5
          have u0 := HV4.out.free (kk * 6)
          have u1 := HV4.out.free (kk * 6 + 1)
          have u2 := HV4.out.free (kk * 6 + 2)
          have u3 := HV4.out.free (kk * 6 + 3)
          have u4 := HV4.out.free (kk * 6 + 4)
          have u5 := HV4.out.free (kk * 6 + 5)
          have HGR := Lib.hid hgr
          clear hl2 hx4 hBx hgr
          refine withK_intro ?_
          go_wp2
          change Code.wp _ _ _ _ (set6 W4 gm (kk * 6) (.int .i64 io) (.string is) (.int .i64 im) (.slice ia3 in3 ic3) (.slice ia4 in4 ic4) (.slice ia5 in5 ic5))
          clear q0 q1 q2 q3 q4 q5 u0 u1 u2 u3 u4 u5 o0 o1 o2 o3 o4 o5 z1 Q0 Q1 Q2 Q3 Q4 Q5
          have hV5 := HV4.out.set6 kk (by have := HL2.out; omega) (.int .i64 io) (.string is) (.int .i64 im) (.slice ia3 in3 ic3) (.slice ia4 in4 ic4) (.slice ia5 in5 ic5)
          have hgr5 := set6_grown W4 gm (kk * 6) (.int .i64 io) (.string is) (.int .i64 im) (.slice ia3 in3 ic3) (.slice ia4 in4 ic4) (.slice ia5 in5 ic5)
          generalize set6 W4 gm (kk * 6) (.int .i64 io) (.string is) (.int .i64 im) (.slice ia3 in3 ic3) (.slice ia4 in4 ic4) (.slice ia5 in5 ic5) = W5 at hV5 hgr5 ⊢
          have hl2 := HL2.out
          have HB5 : Hid (Below w1.heap.size w1 W5) := HB4.out.grown hgr5 HB4.out.size (fun r e => by cases e; exact hgem)
          have HR5 : Hid (RowS W5 gm (swL p.main ii kk) (swF sf ii kk) (swF sg ii kk) (swF sh ii kk)) := by
            obtain ⟨hi3, hi4, hi5⟩ := HI.out
            obtain ⟨hk3, hk4, hk5⟩ := HKS.out
            obtain ⟨hio, his, him⟩ := HIO.out
            obtain ⟨hko, hks, hkm⟩ := HKO.out
            have hV6 : RowV W5 gm (swL p.main ii kk).length (rowC (swL p.main ii kk) (swF sf ii kk) (swF sg ii kk) (swF sh ii kk)) := by
              rw [swL_length]
              refine RowV.congr hV5 (fun j hj => ?_)
              rw [← hio, ← his, ← him, ← hko, ← hks, ← hkm, ← hi3, ← hi4, ← hi5, ← hk3, ← hk4, ← hk5, six6_row p.main sf sg sh ii (j % 6) (by omega), six6_row p.main sf sg sh kk (j % 6) (by omega)]
              exact swap_row p.main sf sg sh ii kk (by omega) (by omega) j hj
            exact hV6
          have hW5 : Below w.heap.size w W5 := HW1.out.trans (HB5.out.mono HW1.out.size)
          have hfs5 : 0 < n1 → fa = some ⟨gf, 0, none⟩ ∧ RowF W5 gf p.funcs ff fg := fun hn => by
            obtain ⟨e, cur, hk, hj⟩ := HT2.out.fs hn
            have hne : gf ≠ gm := HT2.out.ne hn hpos
            have h1 := (HR.out.block _ (lt_of_heap ((HB3.out.block _ (lt_of_heap hk)).trans hk))).trans ((HB3.out.block _ (lt_of_heap hk)).trans hk)
            have h2 := own_of_grown h1 HGR.out (fun e => hne (by cases e; rfl))
            have h3 := own_of_grown h2 hgr5 (fun e => hne (by cases e; rfl))
            exact ⟨e, cur, h3, hj⟩
          have HQ5 : Hid (PR W5 (.slice fa n1 fc) (.slice (some ⟨gm, 0, none⟩) n2 mc) ⟨p.funcs, swL p.main ii kk⟩) :=
            PR.of (copy_fsl HFR.out hW5 HT2.out.lef HT2.out.maxf hfs5) (copy_swapped HSR.out hW5 HT2.out.lem HT2.out.maxm ii kk hil hkl HR5.out)
          have HP5 : Hid (PR W5 (.slice a1 n1 k1) (.slice a2 n2 k2) p) := HP1.out.stay HB5.out
          have HT5 : Hid (Tab W5) := HT1.out.below HB5.out
          have HY05 : Hid (W5.cell? ⟨w.heap.size, 0, none⟩ = some (.slice a1 n1 k1)) := (HB5.out.cell (p := ⟨w.heap.size, 0, none⟩) (lt_of_cell HK0.out)).trans HK0.out
          have HY15 : Hid (W5.cell? ⟨w.heap.size, 1, none⟩ = some (.slice a2 n2 k2)) := (HB5.out.cell (p := ⟨w.heap.size, 1, none⟩) (lt_of_cell HK1.out)).trans HK1.out
          have HG05 : Hid (W5.cell? ⟨g, 0, none⟩ = some (.slice fa n1 fc)) := grown_cell hgr5 (fun e => hneg (by cases e; rfl)) HG04.out
          have HG15 : Hid (W5.cell? ⟨g, 1, none⟩ = some (.slice (some ⟨gm, 0, none⟩) n2 mc)) := grown_cell hgr5 (fun e => hneg (by cases e; rfl)) HG14.out
          obtain ⟨al, hal⟩ : ∃ b, ST.same (p.main.getD ii default) (p.main.getD kk default) = b := ⟨_, rfl⟩
          have HAL : Hid (PT.same p ⟨p.funcs, swL p.main ii kk⟩ = al) := (sw_same p ii kk (by omega) (by omega)).trans hal
          have HAO : Hid (PT.same ⟨[], [p.main.getD ii default]⟩ ⟨[], [p.main.getD kk default]⟩ = al) := (one_same _ _).trans hal
          have HD5 : Hid (PT.depth ⟨p.funcs, swL p.main ii kk⟩ = dp) := (sw_depth p ii kk (by omega) (by omega)).trans HDE.out
          have HS5z : Hid (PT.size ⟨p.funcs, swL p.main ii kk⟩ = sz) := (sw_size p ii kk (by omega) (by omega)).trans HSI.out
          obtain ⟨bq, oq, haq, hsub1⟩ := HP5.out.ms.sub ii hil
          obtain ⟨bq', oq', haq', hsub2⟩ := HP5.out.ms.sub kk hkl
          rw [haq] at haq'
          cases haq'
          subst haq
          have HU1 := Lib.hid hsub1
          have HU2 := Lib.hid hsub2
          clear hal hsub1 hsub2 hfs5 hW5 hV5 hgr5 hl2
          refine region_flow rfl 15 rfl (by decide +kernel) [82, 83, 84, 85, 86, 87, 88, 89, 90, 91, 92, 93, 94, 95, 96] (by decide +kernel) rfl (by decide) (by simp) (fun w w' => Below w.heap.size w w') (fun w => Below W5.heap.size W5 w)
            (fun j v _ => v = ([.pointer (some ⟨w.heap.size, 1, none⟩), .slice (some ⟨bq, oq, none⟩) n2 k2, .int .i64 (ii : Int), .int .i64 (ii : Int), .int .i64 ((ii : Int) + 1), .slice (some ⟨bq, oq + ii * 6, none⟩) 1 (k2 - ii), .agg #[.slice none 0 0, .slice (some ⟨bq, oq + ii * 6, none⟩) 1 (k2 - ii)], .pointer (some ⟨w.heap.size, 1, none⟩), .slice (some ⟨bq, oq, none⟩) n2 k2, .int .i64 (kk : Int), .int .i64 (kk : Int), .int .i64 ((kk : Int) + 1), .slice (some ⟨bq, oq + kk * 6, none⟩) 1 (k2 - kk), .agg #[.slice none 0 0, .slice (some ⟨bq, oq + kk * 6, none⟩) 1 (k2 - kk)], .bool al] : List Value).getD j undef) (fun _ _ _ _ _ h => h) ?hr12 ?hs12 ?hl12
          case hs12 =>
            intro ix hix a wx hR hout hdep
            have hix' : ix = 0 ∨ ix = 1 ∨ ix = 2 ∨ ix = 3 ∨ ix = 4 ∨ ix = 5 ∨ ix = 6 ∨ ix = 7 ∨ ix = 8 ∨ ix = 9 ∨ ix = 10 ∨ ix = 11 ∨ ix = 12 ∨ ix = 13 ∨ ix = 14 := by omega
            rcases hix' with rfl | rfl | rfl | rfl | rfl | rfl | rfl | rfl | rfl | rfl | rfl | rfl | rfl | rfl | rfl
            · have HR := Lib.hid hR
              clear hR
              have e3 := hout 3 (by decide)
              clear hout hdep
              refine op_list (by rfl) ?_
              go_wp2
              exact withK_intro ⟨_, rfl, Below.refl _ _, HR.out, rfl⟩
            · have HR := Lib.hid hR
              clear hR
              have e82 : a.tmps[82]? = some (.pointer (some ⟨w.heap.size, 1, none⟩)) := flow_dep hdep 0 82 (by kernel_rfl) rfl
              have z1 := cell_below HR HY15.out
              clear hout hdep
              refine op_list (by rfl) ?_
              go_wp2
              exact withK_intro ⟨_, rfl, Below.refl _ _, HR.out, rfl⟩
            · have HR := Lib.hid hR
              clear hR
              have e1 := hout 1 (by decide)
              clear hout hdep
              refine op_list (by rfl) ?_
              go_wp2
              exact withK_intro ⟨_, rfl, Below.refl _ _, HR.out, rfl⟩
            · have HR := Lib.hid hR
              clear hR
              have e1 := hout 1 (by decide)
              clear hout hdep
              refine op_list (by rfl) ?_
              go_wp2
              exact withK_intro ⟨_, rfl, Below.refl _ _, HR.out, rfl⟩
            · have HR := Lib.hid hR
              clear hR
              have e85 : a.tmps[85]? = some (.int .i64 (ii : Int)) := flow_dep hdep 3 85 (by kernel_rfl) rfl
              clear hout hdep
              refine op_list (by rfl) ?_
              go_wp2
              exact withK_intro ⟨_, rfl, Below.refl _ _, HR.out, rfl⟩
            · have HR := Lib.hid hR
              clear hR
              have e83 : a.tmps[83]? = some (.slice (some ⟨bq, oq, none⟩) n2 k2) := flow_dep hdep 1 83 (by kernel_rfl) rfl
              have e84 : a.tmps[84]? = some (.int .i64 (ii : Int)) := flow_dep hdep 2 84 (by kernel_rfl) rfl
              have e86 : a.tmps[86]? = some (.int .i64 ((ii : Int) + 1)) := flow_dep hdep 4 86 (by kernel_rfl) rfl
              clear hout hdep
              refine op_list (by rfl) ?_
              go_wp2
              exact withK_intro ⟨_, rfl, Below.refl _ _, HR.out, rfl⟩
            · have HR := Lib.hid hR
              clear hR
              have e87 : a.tmps[87]? = some (.slice (some ⟨bq, oq + ii * 6, none⟩) 1 (k2 - ii)) := flow_dep hdep 5 87 (by kernel_rfl) rfl
              clear hout hdep
              refine op_list (by rfl) ?_
              go_wp2
              exact withK_intro ⟨_, rfl, Below.refl _ _, HR.out, rfl⟩
            · have HR := Lib.hid hR
              clear hR
              have e3 := hout 3 (by decide)
              clear hout hdep
              refine op_list (by rfl) ?_
              go_wp2
              exact withK_intro ⟨_, rfl, Below.refl _ _, HR.out, rfl⟩
            · have HR := Lib.hid hR
              clear hR
              have e89 : a.tmps[89]? = some (.pointer (some ⟨w.heap.size, 1, none⟩)) := flow_dep hdep 7 89 (by kernel_rfl) rfl
              have z1 := cell_below HR HY15.out
              clear hout hdep
              refine op_list (by rfl) ?_
              go_wp2
              exact withK_intro ⟨_, rfl, Below.refl _ _, HR.out, rfl⟩
            · have HR := Lib.hid hR
              clear hR
              have e2 := hout 2 (by decide)
              clear hout hdep
              refine op_list (by rfl) ?_
              go_wp2
              exact withK_intro ⟨_, rfl, Below.refl _ _, HR.out, rfl⟩
            · have HR := Lib.hid hR
              clear hR
              have e2 := hout 2 (by decide)
              clear hout hdep
              refine op_list (by rfl) ?_
              go_wp2
              exact withK_intro ⟨_, rfl, Below.refl _ _, HR.out, rfl⟩
            · have HR := Lib.hid hR
              clear hR
              have e92 : a.tmps[92]? = some (.int .i64 (kk : Int)) := flow_dep hdep 10 92 (by kernel_rfl) rfl
              clear hout hdep
              refine op_list (by rfl) ?_
              go_wp2
              exact withK_intro ⟨_, rfl, Below.refl _ _, HR.out, rfl⟩
            · have HR := Lib.hid hR
              clear hR
              have e90 : a.tmps[90]? = some (.slice (some ⟨bq, oq, none⟩) n2 k2) := flow_dep hdep 8 90 (by kernel_rfl) rfl
              have e91 : a.tmps[91]? = some (.int .i64 (kk : Int)) := flow_dep hdep 9 91 (by kernel_rfl) rfl
              have e93 : a.tmps[93]? = some (.int .i64 ((kk : Int) + 1)) := flow_dep hdep 11 93 (by kernel_rfl) rfl
              clear hout hdep
              refine op_list (by rfl) ?_
              go_wp2
              exact withK_intro ⟨_, rfl, Below.refl _ _, HR.out, rfl⟩
            · have HR := Lib.hid hR
              clear hR
              have e94 : a.tmps[94]? = some (.slice (some ⟨bq, oq + kk * 6, none⟩) 1 (k2 - kk)) := flow_dep hdep 12 94 (by kernel_rfl) rfl
              clear hout hdep
              refine op_list (by rfl) ?_
              go_wp2
              exact withK_intro ⟨_, rfl, Below.refl _ _, HR.out, rfl⟩
            · have HR := Lib.hid hR
              clear hR
              have e88 : a.tmps[88]? = some (.agg #[.slice none 0 0, .slice (some ⟨bq, oq + ii * 6, none⟩) 1 (k2 - ii)]) := flow_dep hdep 6 88 (by kernel_rfl) rfl
              have e95 : a.tmps[95]? = some (.agg #[.slice none 0 0, .slice (some ⟨bq, oq + kk * 6, none⟩) 1 (k2 - kk)]) := flow_dep hdep 13 95 (by kernel_rfl) rfl
              clear hout hdep
              refine op_list (by rfl) ?_
              go_wp2_with (go_at_call 18; refine (equal_r none _ 0 1 0 _ none _ 0 1 0 _ ⟨[], [p.main.getD ii default]⟩ ⟨[], [p.main.getD kk default]⟩ _ (PR.of (FSl.nil _) (HU1.out.stay HR.out)) (PR.of (FSl.nil _) (HU2.out.stay HR.out)) al HAO.out).mono ?_; rintro e w' ⟨rfl, hb⟩; have HBc := Lib.hid hb; clear hb)
              exact withK_intro ⟨_, rfl, HBc.out, HR.out.trans (HBc.out.mono HR.out.size), rfl⟩
          case hl12 =>
            intro vs wx hR hφ
            have HR := Lib.hid hR
            clear hR
            rw [fill_congr _ [82, 83, 84, 85, 86, 87, 88, 89, 90, 91, 92, 93, 94, 95, 96] vs (fun j => ([.pointer (some ⟨w.heap.size, 1, none⟩), .slice (some ⟨bq, oq, none⟩) n2 k2, .int .i64 (ii : Int), .int .i64 (ii : Int), .int .i64 ((ii : Int) + 1), .slice (some ⟨bq, oq + ii * 6, none⟩) 1 (k2 - ii), .agg #[.slice none 0 0, .slice (some ⟨bq, oq + ii * 6, none⟩) 1 (k2 - ii)], .pointer (some ⟨w.heap.size, 1, none⟩), .slice (some ⟨bq, oq, none⟩) n2 k2, .int .i64 (kk : Int), .int .i64 (kk : Int), .int .i64 ((kk : Int) + 1), .slice (some ⟨bq, oq + kk * 6, none⟩) 1 (k2 - kk), .agg #[.slice none 0 0, .slice (some ⟨bq, oq + kk * 6, none⟩) 1 (k2 - kk)], .bool al] : List Value).getD j undef) (fun j hj => hφ j hj)]
            clear hφ vs
            refine op_list (by rfl) ?_
            simp only [fill, fillA, List.getD_cons_zero, List.getD_cons_succ, Nat.reduceAdd]
            have HR12 : Hid (Below W5.heap.size W5 wx) := HR
            go_wp2_with fail
            refine withK_intro ?_
            go_wp2_with fail
            refine region_flow rfl 22 rfl (by decide +kernel) [97, 98, 99, 100, 101, 102, 103, 104, 105, 106, 107, 108, 109, 110, 111, 112, 113, 114, 115, 116, 117, 118] (by decide +kernel) rfl (by decide) (by simp) (fun w w' => Below w.heap.size w w') (fun w => Below W5.heap.size W5 w)
              (fun j v _ => v = ([.bool true, .bool true, .agg #[.slice a1 n1 k1, .slice (some ⟨bq, oq, none⟩) n2 k2], .agg #[.slice fa n1 fc, .slice (some ⟨gm, 0, none⟩) n2 mc], .bool al, .bool al, .bool true, .bool true, .bool true, .agg #[.slice a1 n1 k1, .slice (some ⟨bq, oq, none⟩) n2 k2], .int .i64 sz, .agg #[.slice fa n1 fc, .slice (some ⟨gm, 0, none⟩) n2 mc], .int .i64 sz, .bool true, .bool true, .bool true, .agg #[.slice a1 n1 k1, .slice (some ⟨bq, oq, none⟩) n2 k2], .int .i64 dp, .agg #[.slice fa n1 fc, .slice (some ⟨gm, 0, none⟩) n2 mc], .int .i64 dp, .bool true, .bool true] : List Value).getD j undef) (fun _ _ _ _ _ h => h) ?hr13 ?hs13 ?hl13
            case hs13 =>
              intro ix hix a wx hR hout hdep
              have hix' : ix = 0 ∨ ix = 1 ∨ ix = 2 ∨ ix = 3 ∨ ix = 4 ∨ ix = 5 ∨ ix = 6 ∨ ix = 7 ∨ ix = 8 ∨ ix = 9 ∨ ix = 10 ∨ ix = 11 ∨ ix = 12 ∨ ix = 13 ∨ ix = 14 ∨ ix = 15 ∨ ix = 16 ∨ ix = 17 ∨ ix = 18 ∨ ix = 19 ∨ ix = 20 ∨ ix = 21 := by omega
              rcases hix' with rfl | rfl | rfl | rfl | rfl | rfl | rfl | rfl | rfl | rfl | rfl | rfl | rfl | rfl | rfl | rfl | rfl | rfl | rfl | rfl | rfl | rfl
              · have HR := Lib.hid hR
                clear hR
                have e7 := hout 7 (by decide)
                clear hout hdep
                refine op_list (by rfl) ?_
                go_wp2
                exact withK_intro ⟨_, rfl, Below.refl _ _, HR.out, rfl⟩
              · have HR := Lib.hid hR
                clear hR
                have e97 : a.tmps[97]? = some (.bool true) := flow_dep hdep 0 97 (by kernel_rfl) rfl
                clear hout hdep
                refine op_list (by rfl) ?_
                go_wp2
                exact withK_intro ⟨_, rfl, Below.refl _ _, HR.out, rfl⟩
              · have HR := Lib.hid hR
                clear hR
                have e3 := hout 3 (by decide)
                have e98 : a.tmps[98]? = some (.bool true) := flow_dep hdep 1 98 (by kernel_rfl) rfl
                have z0 := cell_below HR HY05.out
                have z1 := cell_below HR HY15.out
                clear hout hdep
                refine op_list (by rfl) ?_
                go_wp2
                exact withK_intro ⟨_, rfl, Below.refl _ _, HR.out, rfl⟩
              · have HR := Lib.hid hR
                clear hR
                have e8 := hout 8 (by decide)
                have e98 : a.tmps[98]? = some (.bool true) := flow_dep hdep 1 98 (by kernel_rfl) rfl
                have z0 := cell_below HR HG05.out
                have z1 := cell_below HR HG15.out
                clear hout hdep
                refine op_list (by rfl) ?_
                go_wp2
                exact withK_intro ⟨_, rfl, Below.refl _ _, HR.out, rfl⟩
              · have HR := Lib.hid hR
                clear hR
                have e99 : a.tmps[99]? = some (.agg #[.slice a1 n1 k1, .slice (some ⟨bq, oq, none⟩) n2 k2]) := flow_dep hdep 2 99 (by kernel_rfl) rfl
                have e100 : a.tmps[100]? = some (.agg #[.slice fa n1 fc, .slice (some ⟨gm, 0, none⟩) n2 mc]) := flow_dep hdep 3 100 (by kernel_rfl) rfl
                have e98 : a.tmps[98]? = some (.bool true) := flow_dep hdep 1 98 (by kernel_rfl) rfl
                clear hout hdep
                refine op_list (by rfl) ?_
                go_wp2_with (go_at_call 18; refine (equal_r a1 _ n1 n2 k1 k2 fa _ n1 n2 fc mc p ⟨p.funcs, swL p.main ii kk⟩ _ (HP5.out.stay HR.out) (HQ5.out.stay HR.out) al HAL.out).mono ?_; rintro e w' ⟨rfl, hb⟩; have HBc := Lib.hid hb; clear hb)
                exact withK_intro ⟨_, rfl, HBc.out, HR.out.trans (HBc.out.mono HR.out.size), rfl⟩
              · have HR := Lib.hid hR
                clear hR
                have e10 := hout 10 (by decide)
                have e98 : a.tmps[98]? = some (.bool true) := flow_dep hdep 1 98 (by kernel_rfl) rfl
                clear hout hdep
                refine op_list (by rfl) ?_
                go_wp2
                exact withK_intro ⟨_, rfl, Below.refl _ _, HR.out, rfl⟩
              · have HR := Lib.hid hR
                clear hR
                have e101 : a.tmps[101]? = some (.bool al) := flow_dep hdep 4 101 (by kernel_rfl) rfl
                have e102 : a.tmps[102]? = some (.bool al) := flow_dep hdep 5 102 (by kernel_rfl) rfl
                have e98 : a.tmps[98]? = some (.bool true) := flow_dep hdep 1 98 (by kernel_rfl) rfl
                clear hout hdep
                refine op_list (by rfl) ?_
                go_wp2
                exact withK_intro ⟨_, rfl, Below.refl _ _, HR.out, rfl⟩
              · have HR := Lib.hid hR
                clear hR
                have e98 : a.tmps[98]? = some (.bool true) := flow_dep hdep 1 98 (by kernel_rfl) rfl
                have e103 : a.tmps[103]? = some (.bool true) := flow_dep hdep 6 103 (by kernel_rfl) rfl
                clear hout hdep
                refine op_list (by rfl) ?_
                go_wp2
                exact withK_intro ⟨_, rfl, Below.refl _ _, HR.out, rfl⟩
              · have HR := Lib.hid hR
                clear hR
                have e104 : a.tmps[104]? = some (.bool true) := flow_dep hdep 7 104 (by kernel_rfl) rfl
                clear hout hdep
                refine op_list (by rfl) ?_
                go_wp2
                exact withK_intro ⟨_, rfl, Below.refl _ _, HR.out, rfl⟩
              · have HR := Lib.hid hR
                clear hR
                have e3 := hout 3 (by decide)
                have e105 : a.tmps[105]? = some (.bool true) := flow_dep hdep 8 105 (by kernel_rfl) rfl
                have z0 := cell_below HR HY05.out
                have z1 := cell_below HR HY15.out
                clear hout hdep
                refine op_list (by rfl) ?_
                go_wp2
                exact withK_intro ⟨_, rfl, Below.refl _ _, HR.out, rfl⟩
              · have HR := Lib.hid hR
                clear hR
                have e106 : a.tmps[106]? = some (.agg #[.slice a1 n1 k1, .slice (some ⟨bq, oq, none⟩) n2 k2]) := flow_dep hdep 9 106 (by kernel_rfl) rfl
                have e105 : a.tmps[105]? = some (.bool true) := flow_dep hdep 8 105 (by kernel_rfl) rfl
                clear hout hdep
                refine op_list (by rfl) ?_
                go_wp2_with (go_at_call 16; refine (size_r a1 _ n1 n2 k1 k2 p _ (HT5.out.below HR.out) (HP5.out.stay HR.out) _ HSI.out).mono ?_; rintro e w' ⟨rfl, hb⟩; have HBc := Lib.hid hb; clear hb)
                exact withK_intro ⟨_, rfl, HBc.out, HR.out.trans (HBc.out.mono HR.out.size), rfl⟩
              · have HR := Lib.hid hR
                clear hR
                have e8 := hout 8 (by decide)
                have e105 : a.tmps[105]? = some (.bool true) := flow_dep hdep 8 105 (by kernel_rfl) rfl
                have z0 := cell_below HR HG05.out
                have z1 := cell_below HR HG15.out
                clear hout hdep
                refine op_list (by rfl) ?_
                go_wp2
                exact withK_intro ⟨_, rfl, Below.refl _ _, HR.out, rfl⟩
              · have HR := Lib.hid hR
                clear hR
                have e108 : a.tmps[108]? = some (.agg #[.slice fa n1 fc, .slice (some ⟨gm, 0, none⟩) n2 mc]) := flow_dep hdep 11 108 (by kernel_rfl) rfl
                have e105 : a.tmps[105]? = some (.bool true) := flow_dep hdep 8 105 (by kernel_rfl) rfl
                clear hout hdep
                refine op_list (by rfl) ?_
                go_wp2_with (go_at_call 16; refine (size_r fa _ n1 n2 fc mc ⟨p.funcs, swL p.main ii kk⟩ _ (HT5.out.below HR.out) (HQ5.out.stay HR.out) _ HS5z.out).mono ?_; rintro e w' ⟨rfl, hb⟩; have HBc := Lib.hid hb; clear hb)
                exact withK_intro ⟨_, rfl, HBc.out, HR.out.trans (HBc.out.mono HR.out.size), rfl⟩
              · have HR := Lib.hid hR
                clear hR
                have e107 : a.tmps[107]? = some (.int .i64 sz) := flow_dep hdep 10 107 (by kernel_rfl) rfl
                have e109 : a.tmps[109]? = some (.int .i64 sz) := flow_dep hdep 12 109 (by kernel_rfl) rfl
                have e105 : a.tmps[105]? = some (.bool true) := flow_dep hdep 8 105 (by kernel_rfl) rfl
                clear hout hdep
                refine op_list (by rfl) ?_
                go_wp2
                exact withK_intro ⟨_, rfl, Below.refl _ _, HR.out, rfl⟩
              · have HR := Lib.hid hR
                clear hR
                have e105 : a.tmps[105]? = some (.bool true) := flow_dep hdep 8 105 (by kernel_rfl) rfl
                have e110 : a.tmps[110]? = some (.bool true) := flow_dep hdep 13 110 (by kernel_rfl) rfl
                clear hout hdep
                refine op_list (by rfl) ?_
                go_wp2
                exact withK_intro ⟨_, rfl, Below.refl _ _, HR.out, rfl⟩
              · have HR := Lib.hid hR
                clear hR
                have e111 : a.tmps[111]? = some (.bool true) := flow_dep hdep 14 111 (by kernel_rfl) rfl
                clear hout hdep
                refine op_list (by rfl) ?_
                go_wp2
                exact withK_intro ⟨_, rfl, Below.refl _ _, HR.out, rfl⟩
              · have HR := Lib.hid hR
                clear hR
                have e3 := hout 3 (by decide)
                have e112 : a.tmps[112]? = some (.bool true) := flow_dep hdep 15 112 (by kernel_rfl) rfl
                have z0 := cell_below HR HY05.out
                have z1 := cell_below HR HY15.out
                clear hout hdep
                refine op_list (by rfl) ?_
                go_wp2
                exact withK_intro ⟨_, rfl, Below.refl _ _, HR.out, rfl⟩
              · have HR := Lib.hid hR
                clear hR
                have e113 : a.tmps[113]? = some (.agg #[.slice a1 n1 k1, .slice (some ⟨bq, oq, none⟩) n2 k2]) := flow_dep hdep 16 113 (by kernel_rfl) rfl
                have e112 : a.tmps[112]? = some (.bool true) := flow_dep hdep 15 112 (by kernel_rfl) rfl
                clear hout hdep
                refine op_list (by rfl) ?_
                go_wp2_with (go_at_call 14; refine (depth_r a1 _ n1 n2 k1 k2 p _ (HT5.out.below HR.out) (HP5.out.stay HR.out) _ HDE.out).mono ?_; rintro e w' ⟨rfl, hb⟩; have HBc := Lib.hid hb; clear hb)
                exact withK_intro ⟨_, rfl, HBc.out, HR.out.trans (HBc.out.mono HR.out.size), rfl⟩
              · have HR := Lib.hid hR
                clear hR
                have e8 := hout 8 (by decide)
                have e112 : a.tmps[112]? = some (.bool true) := flow_dep hdep 15 112 (by kernel_rfl) rfl
                have z0 := cell_below HR HG05.out
                have z1 := cell_below HR HG15.out
                clear hout hdep
                refine op_list (by rfl) ?_
                go_wp2
                exact withK_intro ⟨_, rfl, Below.refl _ _, HR.out, rfl⟩
              · have HR := Lib.hid hR
                clear hR
                have e115 : a.tmps[115]? = some (.agg #[.slice fa n1 fc, .slice (some ⟨gm, 0, none⟩) n2 mc]) := flow_dep hdep 18 115 (by kernel_rfl) rfl
                have e112 : a.tmps[112]? = some (.bool true) := flow_dep hdep 15 112 (by kernel_rfl) rfl
                clear hout hdep
                refine op_list (by rfl) ?_
                go_wp2_with (go_at_call 14; refine (depth_r fa _ n1 n2 fc mc ⟨p.funcs, swL p.main ii kk⟩ _ (HT5.out.below HR.out) (HQ5.out.stay HR.out) _ HD5.out).mono ?_; rintro e w' ⟨rfl, hb⟩; have HBc := Lib.hid hb; clear hb)
                exact withK_intro ⟨_, rfl, HBc.out, HR.out.trans (HBc.out.mono HR.out.size), rfl⟩
              · have HR := Lib.hid hR
                clear hR
                have e114 : a.tmps[114]? = some (.int .i64 dp) := flow_dep hdep 17 114 (by kernel_rfl) rfl
                have e116 : a.tmps[116]? = some (.int .i64 dp) := flow_dep hdep 19 116 (by kernel_rfl) rfl
                have e112 : a.tmps[112]? = some (.bool true) := flow_dep hdep 15 112 (by kernel_rfl) rfl
                clear hout hdep
                refine op_list (by rfl) ?_
                go_wp2
                exact withK_intro ⟨_, rfl, Below.refl _ _, HR.out, rfl⟩
              · have HR := Lib.hid hR
                clear hR
                have e112 : a.tmps[112]? = some (.bool true) := flow_dep hdep 15 112 (by kernel_rfl) rfl
                have e117 : a.tmps[117]? = some (.bool true) := flow_dep hdep 20 117 (by kernel_rfl) rfl
                clear hout hdep
                refine op_list (by rfl) ?_
                go_wp2
                exact withK_intro ⟨_, rfl, Below.refl _ _, HR.out, rfl⟩
            case hl13 =>
              intro vs wx hR hφ
              have HR := Lib.hid hR
              clear hR
              rw [fill_congr _ [97, 98, 99, 100, 101, 102, 103, 104, 105, 106, 107, 108, 109, 110, 111, 112, 113, 114, 115, 116, 117, 118] vs (fun j => ([.bool true, .bool true, .agg #[.slice a1 n1 k1, .slice (some ⟨bq, oq, none⟩) n2 k2], .agg #[.slice fa n1 fc, .slice (some ⟨gm, 0, none⟩) n2 mc], .bool al, .bool al, .bool true, .bool true, .bool true, .agg #[.slice a1 n1 k1, .slice (some ⟨bq, oq, none⟩) n2 k2], .int .i64 sz, .agg #[.slice fa n1 fc, .slice (some ⟨gm, 0, none⟩) n2 mc], .int .i64 sz, .bool true, .bool true, .bool true, .agg #[.slice a1 n1 k1, .slice (some ⟨bq, oq, none⟩) n2 k2], .int .i64 dp, .agg #[.slice fa n1 fc, .slice (some ⟨gm, 0, none⟩) n2 mc], .int .i64 dp, .bool true, .bool true] : List Value).getD j undef) (fun j hj => hφ j hj)]
              clear hφ vs
              refine op_list (by rfl) ?_
              simp only [fill, fillA, List.getD_cons_zero, List.getD_cons_succ, Nat.reduceAdd]
              go_wp2_with fail
              refine withK_intro ?_
              go_wp2
              go_ret
              exact ⟨rfl, HW1.out.trans ((HB5.out.trans (HR.out.mono HB5.out.size)).mono HW1.out.size)⟩
            case hr13 => exact HR12.out.drew
          case hr12 => exact (Below.refl _ _).drew
        case hr10 => exact (Below.refl _ _).drew
    case hr3 => exact (Below.refl _ _).drew
theorem same_walk (a1 : Option Addr) (n1 k1 : Nat) (a2 : Option Addr) (n2 k2 : Nat) (p : PT) (i k : Int) (w : World) (o : Came w a1 n1 k1 a2 n2 k2 p) (ht : Tab w) :
    Calls Tryd.prog 10 #[.agg #[.slice a1 n1 k1, .slice a2 n2 k2], .int .i64 i, .int .i64 k] w fun e w' => e = .returned (.bool true) ∧ Below w.heap.size w w' := by
  obtain ⟨xi, hxi, x0, x1⟩ := bits_16 i
  obtain ⟨xk, hxk, y0, y1⟩ := bits_16 k
  refine same_core a1 a2 n1 n2 k1 k2 p i k w ht o.1 o.2.1 o.2.2 xi xk hxi hxk (xi % n2).toNat (xk % n2).toNat ?_ ?_
  · intro hpos
    have h1 := Int.emod_nonneg xi (show (n2 : Int) ≠ 0 by omega)
    have h2 := Int.emod_lt_of_pos xi (show (0 : Int) < n2 by omega)
    exact ⟨by rw [Int.tmod_eq_emod_of_nonneg x0]; omega, by omega⟩
  · intro hpos
    have h1 := Int.emod_nonneg xk (show (n2 : Int) ≠ 0 by omega)
    have h2 := Int.emod_lt_of_pos xk (show (0 : Int) < n2 by omega)
    exact ⟨by rw [Int.tmod_eq_emod_of_nonneg y0]; omega, by omega⟩
end Go.Proofs.YtplckmpamekloaaDoor
