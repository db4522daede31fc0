/- TreeTells: the walk of the statement (printed by gen_tt.py), and what came in. -/
import Derived.Test.YtplckmpamekloaaDoorTellsR
import Derived.Test.YtplckmpamekloaaDoorTreeShown
import Derived.Test.YtplckmpamekloaaDoorTreeTwinLaws0
namespace Go.Proofs.YtplckmpamekloaaDoor
open Go.RowKit Go.Sort
set_option linter.unusedVariables false

theorem cut_100 (s : ByteArray) : ∃ s' : ByteArray, ((s.size ≤ 100 ∧ s' = s) ∨ (100 < s.size ∧ s.extract 0 100 = s')) := by
  by_cases h : s.size ≤ 100
  · exact ⟨s, .inl ⟨h, rfl⟩⟩
  · exact ⟨_, .inr ⟨by omega, rfl⟩⟩
set_option maxHeartbeats 8000000 in
set_option maxRecDepth 1000000 in
theorem tells_core (a1 a2 : Option Addr) (n1 n2 k1 k2 : Nat) (p : PT) (c1 c2 : Option Addr) (m1 m2 j1 j2 : Nat) (q : PT) (s s' : ByteArray) (hs : s.size ≤ 140737488351232) (hs' : (s.size ≤ 100 ∧ s' = s) ∨ (100 < s.size ∧ s.extract 0 100 = s')) (w : World) (ht : Tab w)
    (hp : PR w (.slice a1 n1 k1) (.slice a2 n2 k2) p) (hq : PR w (.slice c1 m1 j1) (.slice c2 m2 j2) q) (hnum : p.numP) (hbp : p.nodes.length ≤ 1048576) :
    Calls Tryd.prog 3 #[.agg #[.slice a1 n1 k1, .slice a2 n2 k2], .agg #[.slice c1 m1 j1, .slice c2 m2 j2], .string s] w
      fun e w' => e = .returned (.bool true) ∧ Below w.heap.size w w' := by
  obtain ⟨r, hr⟩ : ∃ r, p.right = r := ⟨_, rfl⟩
  obtain ⟨d, hd⟩ : ∃ r, p.depth = r := ⟨_, rfl⟩
  obtain ⟨n, hn⟩ : ∃ r, p.size = r := ⟨_, rfl⟩
  obtain ⟨eq, heq⟩ : ∃ r, PT.same p q = r := ⟨_, rfl⟩
  obtain ⟨nm, hnm⟩ : ∃ r, nameB s' = r := ⟨_, rfl⟩
  have HT := Lib.hid ht
  have HP := Lib.hid hp
  have HQ := Lib.hid hq
  have HNum := Lib.hid hnum
  have HRt := Lib.hid hr
  have HRr : Hid (p.rright = r) := (PT.rright_eq p hbp).trans hr
  have HDp := Lib.hid hd
  have HDr : Hid (p.rdepth = d) := (PT.rdepth_eq p hbp).trans hd
  have HSz := Lib.hid hn
  have HSr : Hid (p.rsize = n) := (PT.rsize_eq p hbp).trans hn
  have HEq := Lib.hid heq
  have HPP : Hid (PT.same p p = true) := PT.same_refl p
  have HNm := Lib.hid hnm
  clear ht hp hq hr hd hn heq hnm hnum hbp
  rcases hs' with ⟨h100, rfl⟩ | ⟨h100, he⟩
  all_goals
    go_enter Tryd.func3, Tryd.ntmps3
    go_upto_region 3 with (go_at_call 11; refine (shown_r _ (HT.out.below (((Below.refl _ _).alloc (Nat.le_refl _) _).alloc (by simp) _))).mono ?_; rintro e W ⟨rfl, hb⟩; have HB : Hid (Below w.heap.size w W) := (((Below.refl w.heap.size w).alloc (Nat.le_refl _) _).alloc (by simp) _).trans (hb.mono (by simp; omega)); have HY0 : Hid (W.cell? ⟨w.heap.size, 0, none⟩ = some (.slice a1 n1 k1)) := (hb.cell (p := ⟨w.heap.size, 0, none⟩) (by simp; omega)).trans (by simp); have HY1 : Hid (W.cell? ⟨w.heap.size, 1, none⟩ = some (.slice a2 n2 k2)) := (hb.cell (p := ⟨w.heap.size, 1, none⟩) (by simp; omega)).trans (by simp); have HZ0 : Hid (W.cell? ⟨w.heap.size + 1, 0, none⟩ = some (.slice c1 m1 j1)) := (hb.cell (p := ⟨w.heap.size + 1, 0, none⟩) (by simp)).trans (by simp); have HZ1 : Hid (W.cell? ⟨w.heap.size + 1, 1, none⟩ = some (.slice c2 m2 j2)) := (hb.cell (p := ⟨w.heap.size + 1, 1, none⟩) (by simp)).trans (by simp); clear hb)
    have HTW : Hid (Tab W) := HT.out.below HB.out
    have HPW : Hid (PR W (.slice a1 n1 k1) (.slice a2 n2 k2) p) := HP.out.stay HB.out
    have HQW : Hid (PR W (.slice c1 m1 j1) (.slice c2 m2 j2) q) := HQ.out.stay HB.out
    refine region_flow rfl 43 rfl (by decide +kernel) [14, 15, 16, 17, 18, 19, 20, 21, 22, 23, 24, 25, 26, 27, 28, 29, 30, 31, 32, 33, 34, 35, 36, 37, 38, 39, 40, 41, 42, 43, 44, 45, 46, 47, 48, 49, 50, 51, 52, 53, 54, 55, 56] (by decide +kernel) rfl (by decide) (by simp) (fun w w' => Below w.heap.size w w') (fun w => Below W.heap.size W w)
      (fun j v _ => v = ([.bool true, .bool true, .agg #[.slice a1 n1 k1, .slice a2 n2 k2], .int .i64 r, .agg #[.slice a1 n1 k1, .slice a2 n2 k2], .int .i64 r, .bool true, .bool true, .bool true, .agg #[.slice a1 n1 k1, .slice a2 n2 k2], .int .i64 d, .agg #[.slice a1 n1 k1, .slice a2 n2 k2], .int .i64 d, .bool true, .bool true, .bool true, .agg #[.slice a1 n1 k1, .slice a2 n2 k2], .int .i64 n, .agg #[.slice a1 n1 k1, .slice a2 n2 k2], .int .i64 n, .bool true, .bool true, .bool true, .agg #[.slice a1 n1 k1, .slice a2 n2 k2], .agg #[.slice c1 m1 j1, .slice c2 m2 j2], .bool eq, .agg #[.slice a1 n1 k1, .slice a2 n2 k2], .agg #[.slice c1 m1 j1, .slice c2 m2 j2], .bool eq, .bool true, .bool true, .bool true, .agg #[.slice a1 n1 k1, .slice a2 n2 k2], .agg #[.slice a1 n1 k1, .slice a2 n2 k2], .bool true, .bool true, .bool true, .string s', .bool nm, .string s', .bool nm, .bool true, .bool true] : List Value).getD j undef) (fun _ _ _ _ _ h => h) ?hr3 ?hs3 ?hl3
    case hs3 =>
      intro ix hix a wx hR hout hdep
      have hix' : ix = 0 ∨ ix = 1 ∨ ix = 2 ∨ ix = 3 ∨ ix = 4 ∨ ix = 5 ∨ ix = 6 ∨ ix = 7 ∨ ix = 8 ∨ ix = 9 ∨ ix = 10 ∨ ix = 11 ∨ ix = 12 ∨ ix = 13 ∨ ix = 14 ∨ ix = 15 ∨ ix = 16 ∨ ix = 17 ∨ ix = 18 ∨ ix = 19 ∨ ix = 20 ∨ ix = 21 ∨ ix = 22 ∨ ix = 23 ∨ ix = 24 ∨ ix = 25 ∨ ix = 26 ∨ ix = 27 ∨ ix = 28 ∨ ix = 29 ∨ ix = 30 ∨ ix = 31 ∨ ix = 32 ∨ ix = 33 ∨ ix = 34 ∨ ix = 35 ∨ ix = 36 ∨ ix = 37 ∨ ix = 38 ∨ ix = 39 ∨ ix = 40 ∨ ix = 41 ∨ ix = 42 := by omega
      rcases hix' with rfl | rfl | rfl | rfl | rfl | rfl | rfl | rfl | rfl | rfl | rfl | rfl | rfl | rfl | rfl | rfl | rfl | rfl | rfl | rfl | rfl | rfl | rfl | rfl | rfl | rfl | rfl | rfl | rfl | rfl | rfl | rfl | rfl | rfl | rfl | rfl | rfl | rfl | rfl | rfl | rfl | rfl | rfl
      · have HR := Lib.hid hR
        clear hR
        have e7 := hout 7 (by decide)
        clear hout hdep
        refine op_list (by rfl) ?_
        go_wp2
        exact withK_intro ⟨_, rfl, Below.refl _ _, HR.out, rfl⟩
      · have HR := Lib.hid hR
        clear hR
        have e14 : a.tmps[14]? = some (.bool true) := flow_dep hdep 0 14 (by kernel_rfl) rfl
        clear hout hdep
        refine op_list (by rfl) ?_
        go_wp2
        exact withK_intro ⟨_, rfl, Below.refl _ _, HR.out, rfl⟩
      · have HR := Lib.hid hR
        clear hR
        have e3 := hout 3 (by decide)
        have e15 : a.tmps[15]? = some (.bool true) := flow_dep hdep 1 15 (by kernel_rfl) rfl
        have z0 := cell_below HR HY0.out
        have z1 := cell_below HR HY1.out
        clear hout hdep
        refine op_list (by rfl) ?_
        go_wp2
        exact withK_intro ⟨_, rfl, Below.refl _ _, HR.out, rfl⟩
      · have HR := Lib.hid hR
        clear hR
        have e16 : a.tmps[16]? = some (.agg #[.slice a1 n1 k1, .slice a2 n2 k2]) := flow_dep hdep 2 16 (by kernel_rfl) rfl
        have e15 : a.tmps[15]? = some (.bool true) := flow_dep hdep 1 15 (by kernel_rfl) rfl
        clear hout hdep
        refine op_list (by rfl) ?_
        go_wp2_with (go_at_call 12; refine (right_r a1 a2 n1 n2 k1 k2 p _ (HTW.out.below HR.out) (HPW.out.stay HR.out) _ HRt.out).mono ?_; rintro e w' ⟨rfl, hb⟩; have HBc := Lib.hid hb; clear hb)
        exact withK_intro ⟨_, rfl, HBc.out, HR.out.trans (HBc.out.mono HR.out.size), rfl⟩
      · have HR := Lib.hid hR
        clear hR
        have e3 := hout 3 (by decide)
        have e15 : a.tmps[15]? = some (.bool true) := flow_dep hdep 1 15 (by kernel_rfl) rfl
        have z0 := cell_below HR HY0.out
        have z1 := cell_below HR HY1.out
        clear hout hdep
        refine op_list (by rfl) ?_
        go_wp2
        exact withK_intro ⟨_, rfl, Below.refl _ _, HR.out, rfl⟩
      · have HR := Lib.hid hR
        clear hR
        have e18 : a.tmps[18]? = some (.agg #[.slice a1 n1 k1, .slice a2 n2 k2]) := flow_dep hdep 4 18 (by kernel_rfl) rfl
        have e15 : a.tmps[15]? = some (.bool true) := flow_dep hdep 1 15 (by kernel_rfl) rfl
        clear hout hdep
        refine op_list (by rfl) ?_
        go_wp2_with (go_at_call 13; refine (rright_r _ (HPW.out.stay HR.out) HNum.out _ HRr.out).mono ?_; rintro e w' ⟨rfl, hb⟩; have HBc := Lib.hid hb; clear hb)
        exact withK_intro ⟨_, rfl, HBc.out, HR.out.trans (HBc.out.mono HR.out.size), rfl⟩
      · have HR := Lib.hid hR
        clear hR
        have e17 : a.tmps[17]? = some (.int .i64 r) := flow_dep hdep 3 17 (by kernel_rfl) rfl
        have e19 : a.tmps[19]? = some (.int .i64 r) := flow_dep hdep 5 19 (by kernel_rfl) rfl
        have e15 : a.tmps[15]? = some (.bool true) := flow_dep hdep 1 15 (by kernel_rfl) rfl
        clear hout hdep
        refine op_list (by rfl) ?_
        go_wp2
        exact withK_intro ⟨_, rfl, Below.refl _ _, HR.out, rfl⟩
      · have HR := Lib.hid hR
        clear hR
        have e15 : a.tmps[15]? = some (.bool true) := flow_dep hdep 1 15 (by kernel_rfl) rfl
        have e20 : a.tmps[20]? = some (.bool true) := flow_dep hdep 6 20 (by kernel_rfl) rfl
        clear hout hdep
        refine op_list (by rfl) ?_
        go_wp2
        exact withK_intro ⟨_, rfl, Below.refl _ _, HR.out, rfl⟩
      · have HR := Lib.hid hR
        clear hR
        have e21 : a.tmps[21]? = some (.bool true) := flow_dep hdep 7 21 (by kernel_rfl) rfl
        clear hout hdep
        refine op_list (by rfl) ?_
        go_wp2
        exact withK_intro ⟨_, rfl, Below.refl _ _, HR.out, rfl⟩
      · have HR := Lib.hid hR
        clear hR
        have e3 := hout 3 (by decide)
        have e22 : a.tmps[22]? = some (.bool true) := flow_dep hdep 8 22 (by kernel_rfl) rfl
        have z0 := cell_below HR HY0.out
        have z1 := cell_below HR HY1.out
        clear hout hdep
        refine op_list (by rfl) ?_
        go_wp2
        exact withK_intro ⟨_, rfl, Below.refl _ _, HR.out, rfl⟩
      · have HR := Lib.hid hR
        clear hR
        have e23 : a.tmps[23]? = some (.agg #[.slice a1 n1 k1, .slice a2 n2 k2]) := flow_dep hdep 9 23 (by kernel_rfl) rfl
        have e22 : a.tmps[22]? = some (.bool true) := flow_dep hdep 8 22 (by kernel_rfl) rfl
        clear hout hdep
        refine op_list (by rfl) ?_
        go_wp2_with (go_at_call 14; refine (depth_r a1 a2 n1 n2 k1 k2 p _ (HTW.out.below HR.out) (HPW.out.stay HR.out) _ HDp.out).mono ?_; rintro e w' ⟨rfl, hb⟩; have HBc := Lib.hid hb; clear hb)
        exact withK_intro ⟨_, rfl, HBc.out, HR.out.trans (HBc.out.mono HR.out.size), rfl⟩
      · have HR := Lib.hid hR
        clear hR
        have e3 := hout 3 (by decide)
        have e22 : a.tmps[22]? = some (.bool true) := flow_dep hdep 8 22 (by kernel_rfl) rfl
        have z0 := cell_below HR HY0.out
        have z1 := cell_below HR HY1.out
        clear hout hdep
        refine op_list (by rfl) ?_
        go_wp2
        exact withK_intro ⟨_, rfl, Below.refl _ _, HR.out, rfl⟩
      · have HR := Lib.hid hR
        clear hR
        have e25 : a.tmps[25]? = some (.agg #[.slice a1 n1 k1, .slice a2 n2 k2]) := flow_dep hdep 11 25 (by kernel_rfl) rfl
        have e22 : a.tmps[22]? = some (.bool true) := flow_dep hdep 8 22 (by kernel_rfl) rfl
        clear hout hdep
        refine op_list (by rfl) ?_
        go_wp2_with (go_at_call 15; refine (rdepth_r _ (HPW.out.stay HR.out) _ HDr.out).mono ?_; rintro e w' ⟨rfl, hb⟩; have HBc := Lib.hid hb; clear hb)
        exact withK_intro ⟨_, rfl, HBc.out, HR.out.trans (HBc.out.mono HR.out.size), rfl⟩
      · have HR := Lib.hid hR
        clear hR
        have e24 : a.tmps[24]? = some (.int .i64 d) := flow_dep hdep 10 24 (by kernel_rfl) rfl
        have e26 : a.tmps[26]? = some (.int .i64 d) := flow_dep hdep 12 26 (by kernel_rfl) rfl
        have e22 : a.tmps[22]? = some (.bool true) := flow_dep hdep 8 22 (by kernel_rfl) rfl
        clear hout hdep
        refine op_list (by rfl) ?_
        go_wp2
        exact withK_intro ⟨_, rfl, Below.refl _ _, HR.out, rfl⟩
      · have HR := Lib.hid hR
        clear hR
        have e22 : a.tmps[22]? = some (.bool true) := flow_dep hdep 8 22 (by kernel_rfl) rfl
        have e27 : a.tmps[27]? = some (.bool true) := flow_dep hdep 13 27 (by kernel_rfl) rfl
        clear hout hdep
        refine op_list (by rfl) ?_
        go_wp2
        exact withK_intro ⟨_, rfl, Below.refl _ _, HR.out, rfl⟩
      · have HR := Lib.hid hR
        clear hR
        have e28 : a.tmps[28]? = some (.bool true) := flow_dep hdep 14 28 (by kernel_rfl) rfl
        clear hout hdep
        refine op_list (by rfl) ?_
        go_wp2
        exact withK_intro ⟨_, rfl, Below.refl _ _, HR.out, rfl⟩
      · have HR := Lib.hid hR
        clear hR
        have e3 := hout 3 (by decide)
        have e29 : a.tmps[29]? = some (.bool true) := flow_dep hdep 15 29 (by kernel_rfl) rfl
        have z0 := cell_below HR HY0.out
        have z1 := cell_below HR HY1.out
        clear hout hdep
        refine op_list (by rfl) ?_
        go_wp2
        exact withK_intro ⟨_, rfl, Below.refl _ _, HR.out, rfl⟩
      · have HR := Lib.hid hR
        clear hR
        have e30 : a.tmps[30]? = some (.agg #[.slice a1 n1 k1, .slice a2 n2 k2]) := flow_dep hdep 16 30 (by kernel_rfl) rfl
        have e29 : a.tmps[29]? = some (.bool true) := flow_dep hdep 15 29 (by kernel_rfl) rfl
        clear hout hdep
        refine op_list (by rfl) ?_
        go_wp2_with (go_at_call 16; refine (size_r a1 a2 n1 n2 k1 k2 p _ (HTW.out.below HR.out) (HPW.out.stay HR.out) _ HSz.out).mono ?_; rintro e w' ⟨rfl, hb⟩; have HBc := Lib.hid hb; clear hb)
        exact withK_intro ⟨_, rfl, HBc.out, HR.out.trans (HBc.out.mono HR.out.size), rfl⟩
      · have HR := Lib.hid hR
        clear hR
        have e3 := hout 3 (by decide)
        have e29 : a.tmps[29]? = some (.bool true) := flow_dep hdep 15 29 (by kernel_rfl) rfl
        have z0 := cell_below HR HY0.out
        have z1 := cell_below HR HY1.out
        clear hout hdep
        refine op_list (by rfl) ?_
        go_wp2
        exact withK_intro ⟨_, rfl, Below.refl _ _, HR.out, rfl⟩
      · have HR := Lib.hid hR
        clear hR
        have e32 : a.tmps[32]? = some (.agg #[.slice a1 n1 k1, .slice a2 n2 k2]) := flow_dep hdep 18 32 (by kernel_rfl) rfl
        have e29 : a.tmps[29]? = some (.bool true) := flow_dep hdep 15 29 (by kernel_rfl) rfl
        clear hout hdep
        refine op_list (by rfl) ?_
        go_wp2_with (go_at_call 17; refine (rsize_r _ (HPW.out.stay HR.out) _ HSr.out).mono ?_; rintro e w' ⟨rfl, hb⟩; have HBc := Lib.hid hb; clear hb)
        exact withK_intro ⟨_, rfl, HBc.out, HR.out.trans (HBc.out.mono HR.out.size), rfl⟩
      · have HR := Lib.hid hR
        clear hR
        have e31 : a.tmps[31]? = some (.int .i64 n) := flow_dep hdep 17 31 (by kernel_rfl) rfl
        have e33 : a.tmps[33]? = some (.int .i64 n) := flow_dep hdep 19 33 (by kernel_rfl) rfl
        have e29 : a.tmps[29]? = some (.bool true) := flow_dep hdep 15 29 (by kernel_rfl) rfl
        clear hout hdep
        refine op_list (by rfl) ?_
        go_wp2
        exact withK_intro ⟨_, rfl, Below.refl _ _, HR.out, rfl⟩
      · have HR := Lib.hid hR
        clear hR
        have e29 : a.tmps[29]? = some (.bool true) := flow_dep hdep 15 29 (by kernel_rfl) rfl
        have e34 : a.tmps[34]? = some (.bool true) := flow_dep hdep 20 34 (by kernel_rfl) rfl
        clear hout hdep
        refine op_list (by rfl) ?_
        go_wp2
        exact withK_intro ⟨_, rfl, Below.refl _ _, HR.out, rfl⟩
      · have HR := Lib.hid hR
        clear hR
        have e35 : a.tmps[35]? = some (.bool true) := flow_dep hdep 21 35 (by kernel_rfl) rfl
        clear hout hdep
        refine op_list (by rfl) ?_
        go_wp2
        exact withK_intro ⟨_, rfl, Below.refl _ _, HR.out, rfl⟩
      · have HR := Lib.hid hR
        clear hR
        have e3 := hout 3 (by decide)
        have e36 : a.tmps[36]? = some (.bool true) := flow_dep hdep 22 36 (by kernel_rfl) rfl
        have z0 := cell_below HR HY0.out
        have z1 := cell_below HR HY1.out
        clear hout hdep
        refine op_list (by rfl) ?_
        go_wp2
        exact withK_intro ⟨_, rfl, Below.refl _ _, HR.out, rfl⟩
      · have HR := Lib.hid hR
        clear hR
        have e4 := hout 4 (by decide)
        have e36 : a.tmps[36]? = some (.bool true) := flow_dep hdep 22 36 (by kernel_rfl) rfl
        have z0 := cell_below HR HZ0.out
        have z1 := cell_below HR HZ1.out
        clear hout hdep
        refine op_list (by rfl) ?_
        go_wp2
        exact withK_intro ⟨_, rfl, Below.refl _ _, HR.out, rfl⟩
      · have HR := Lib.hid hR
        clear hR
        have e37 : a.tmps[37]? = some (.agg #[.slice a1 n1 k1, .slice a2 n2 k2]) := flow_dep hdep 23 37 (by kernel_rfl) rfl
        have e38 : a.tmps[38]? = some (.agg #[.slice c1 m1 j1, .slice c2 m2 j2]) := flow_dep hdep 24 38 (by kernel_rfl) rfl
        have e36 : a.tmps[36]? = some (.bool true) := flow_dep hdep 22 36 (by kernel_rfl) rfl
        clear hout hdep
        refine op_list (by rfl) ?_
        go_wp2_with (go_at_call 18; refine (equal_r _ _ _ _ _ _ _ _ _ _ _ _ p q _ (HPW.out.stay HR.out) (HQW.out.stay HR.out) _ HEq.out).mono ?_; rintro e w' ⟨rfl, hb⟩; have HBc := Lib.hid hb; clear hb)
        exact withK_intro ⟨_, rfl, HBc.out, HR.out.trans (HBc.out.mono HR.out.size), rfl⟩
      · have HR := Lib.hid hR
        clear hR
        have e3 := hout 3 (by decide)
        have e36 : a.tmps[36]? = some (.bool true) := flow_dep hdep 22 36 (by kernel_rfl) rfl
        have z0 := cell_below HR HY0.out
        have z1 := cell_below HR HY1.out
        clear hout hdep
        refine op_list (by rfl) ?_
        go_wp2
        exact withK_intro ⟨_, rfl, Below.refl _ _, HR.out, rfl⟩
      · have HR := Lib.hid hR
        clear hR
        have e4 := hout 4 (by decide)
        have e36 : a.tmps[36]? = some (.bool true) := flow_dep hdep 22 36 (by kernel_rfl) rfl
        have z0 := cell_below HR HZ0.out
        have z1 := cell_below HR HZ1.out
        clear hout hdep
        refine op_list (by rfl) ?_
        go_wp2
        exact withK_intro ⟨_, rfl, Below.refl _ _, HR.out, rfl⟩
      · have HR := Lib.hid hR
        clear hR
        have e40 : a.tmps[40]? = some (.agg #[.slice a1 n1 k1, .slice a2 n2 k2]) := flow_dep hdep 26 40 (by kernel_rfl) rfl
        have e41 : a.tmps[41]? = some (.agg #[.slice c1 m1 j1, .slice c2 m2 j2]) := flow_dep hdep 27 41 (by kernel_rfl) rfl
        have e36 : a.tmps[36]? = some (.bool true) := flow_dep hdep 22 36 (by kernel_rfl) rfl
        clear hout hdep
        refine op_list (by rfl) ?_
        go_wp2_with (go_at_call 19; refine (requal_r _ (HPW.out.stay HR.out) (HQW.out.stay HR.out) _ HEq.out).mono ?_; rintro e w' ⟨rfl, hb⟩; have HBc := Lib.hid hb; clear hb)
        exact withK_intro ⟨_, rfl, HBc.out, HR.out.trans (HBc.out.mono HR.out.size), rfl⟩
      · have HR := Lib.hid hR
        clear hR
        have e39 : a.tmps[39]? = some (.bool eq) := flow_dep hdep 25 39 (by kernel_rfl) rfl
        have e42 : a.tmps[42]? = some (.bool eq) := flow_dep hdep 28 42 (by kernel_rfl) rfl
        have e36 : a.tmps[36]? = some (.bool true) := flow_dep hdep 22 36 (by kernel_rfl) rfl
        clear hout hdep
        refine op_list (by rfl) ?_
        go_wp2
        exact withK_intro ⟨_, rfl, Below.refl _ _, HR.out, rfl⟩
      · have HR := Lib.hid hR
        clear hR
        have e36 : a.tmps[36]? = some (.bool true) := flow_dep hdep 22 36 (by kernel_rfl) rfl
        have e43 : a.tmps[43]? = some (.bool true) := flow_dep hdep 29 43 (by kernel_rfl) rfl
        clear hout hdep
        refine op_list (by rfl) ?_
        go_wp2
        exact withK_intro ⟨_, rfl, Below.refl _ _, HR.out, rfl⟩
      · have HR := Lib.hid hR
        clear hR
        have e44 : a.tmps[44]? = some (.bool true) := flow_dep hdep 30 44 (by kernel_rfl) rfl
        clear hout hdep
        refine op_list (by rfl) ?_
        go_wp2
        exact withK_intro ⟨_, rfl, Below.refl _ _, HR.out, rfl⟩
      · have HR := Lib.hid hR
        clear hR
        have e3 := hout 3 (by decide)
        have e45 : a.tmps[45]? = some (.bool true) := flow_dep hdep 31 45 (by kernel_rfl) rfl
        have z0 := cell_below HR HY0.out
        have z1 := cell_below HR HY1.out
        clear hout hdep
        refine op_list (by rfl) ?_
        go_wp2
        exact withK_intro ⟨_, rfl, Below.refl _ _, HR.out, rfl⟩
      · have HR := Lib.hid hR
        clear hR
        have e3 := hout 3 (by decide)
        have e45 : a.tmps[45]? = some (.bool true) := flow_dep hdep 31 45 (by kernel_rfl) rfl
        have z0 := cell_below HR HY0.out
        have z1 := cell_below HR HY1.out
        clear hout hdep
        refine op_list (by rfl) ?_
        go_wp2
        exact withK_intro ⟨_, rfl, Below.refl _ _, HR.out, rfl⟩
      · have HR := Lib.hid hR
        clear hR
        have e46 : a.tmps[46]? = some (.agg #[.slice a1 n1 k1, .slice a2 n2 k2]) := flow_dep hdep 32 46 (by kernel_rfl) rfl
        have e47 : a.tmps[47]? = some (.agg #[.slice a1 n1 k1, .slice a2 n2 k2]) := flow_dep hdep 33 47 (by kernel_rfl) rfl
        have e45 : a.tmps[45]? = some (.bool true) := flow_dep hdep 31 45 (by kernel_rfl) rfl
        clear hout hdep
        refine op_list (by rfl) ?_
        go_wp2_with (go_at_call 18; refine (equal_r _ _ _ _ _ _ _ _ _ _ _ _ p p _ (HPW.out.stay HR.out) (HPW.out.stay HR.out) _ HPP.out).mono ?_; rintro e w' ⟨rfl, hb⟩; have HBc := Lib.hid hb; clear hb)
        exact withK_intro ⟨_, rfl, HBc.out, HR.out.trans (HBc.out.mono HR.out.size), rfl⟩
      · have HR := Lib.hid hR
        clear hR
        have e45 : a.tmps[45]? = some (.bool true) := flow_dep hdep 31 45 (by kernel_rfl) rfl
        have e48 : a.tmps[48]? = some (.bool true) := flow_dep hdep 34 48 (by kernel_rfl) rfl
        clear hout hdep
        refine op_list (by rfl) ?_
        go_wp2
        exact withK_intro ⟨_, rfl, Below.refl _ _, HR.out, rfl⟩
      · have HR := Lib.hid hR
        clear hR
        have e49 : a.tmps[49]? = some (.bool true) := flow_dep hdep 35 49 (by kernel_rfl) rfl
        clear hout hdep
        refine op_list (by rfl) ?_
        go_wp2
        exact withK_intro ⟨_, rfl, Below.refl _ _, HR.out, rfl⟩
      · have HR := Lib.hid hR
        clear hR
        have e2 := hout 2 (by decide)
        have e50 : a.tmps[50]? = some (.bool true) := flow_dep hdep 36 50 (by kernel_rfl) rfl
        clear hout hdep
        refine op_list (by rfl) ?_
        go_wp2
        exact withK_intro ⟨_, rfl, Below.refl _ _, HR.out, rfl⟩
      · have HR := Lib.hid hR
        clear hR
        have e51 : a.tmps[51]? = some (.string s') := flow_dep hdep 37 51 (by kernel_rfl) rfl
        have e50 : a.tmps[50]? = some (.bool true) := flow_dep hdep 36 50 (by kernel_rfl) rfl
        clear hout hdep
        refine op_list (by rfl) ?_
        go_wp2_with (go_at_call 20; refine (name_r s' _ HNm.out _).mono ?_; rintro e w' ⟨rfl, hb⟩; have HBc := Lib.hid hb; clear hb)
        exact withK_intro ⟨_, rfl, HBc.out, HR.out.trans (HBc.out.mono HR.out.size), rfl⟩
      · have HR := Lib.hid hR
        clear hR
        have e2 := hout 2 (by decide)
        have e50 : a.tmps[50]? = some (.bool true) := flow_dep hdep 36 50 (by kernel_rfl) rfl
        clear hout hdep
        refine op_list (by rfl) ?_
        go_wp2
        exact withK_intro ⟨_, rfl, Below.refl _ _, HR.out, rfl⟩
      · have HR := Lib.hid hR
        clear hR
        have e53 : a.tmps[53]? = some (.string s') := flow_dep hdep 39 53 (by kernel_rfl) rfl
        have e50 : a.tmps[50]? = some (.bool true) := flow_dep hdep 36 50 (by kernel_rfl) rfl
        clear hout hdep
        refine op_list (by rfl) ?_
        go_wp2_with (go_at_call 21; refine (rname_r s' _ HNm.out _).mono ?_; rintro e w' ⟨rfl, hb⟩; have HBc := Lib.hid hb; clear hb)
        exact withK_intro ⟨_, rfl, HBc.out, HR.out.trans (HBc.out.mono HR.out.size), rfl⟩
      · have HR := Lib.hid hR
        clear hR
        have e52 : a.tmps[52]? = some (.bool nm) := flow_dep hdep 38 52 (by kernel_rfl) rfl
        have e54 : a.tmps[54]? = some (.bool nm) := flow_dep hdep 40 54 (by kernel_rfl) rfl
        have e50 : a.tmps[50]? = some (.bool true) := flow_dep hdep 36 50 (by kernel_rfl) rfl
        clear hout hdep
        refine op_list (by rfl) ?_
        go_wp2
        exact withK_intro ⟨_, rfl, Below.refl _ _, HR.out, rfl⟩
      · have HR := Lib.hid hR
        clear hR
        have e50 : a.tmps[50]? = some (.bool true) := flow_dep hdep 36 50 (by kernel_rfl) rfl
        have e55 : a.tmps[55]? = some (.bool true) := flow_dep hdep 41 55 (by kernel_rfl) rfl
        clear hout hdep
        refine op_list (by rfl) ?_
        go_wp2
        exact withK_intro ⟨_, rfl, Below.refl _ _, HR.out, rfl⟩
    case hl3 =>
      intro vs wx hR hφ
      have HR := Lib.hid hR
      clear hR
      rw [fill_congr _ [14, 15, 16, 17, 18, 19, 20, 21, 22, 23, 24, 25, 26, 27, 28, 29, 30, 31, 32, 33, 34, 35, 36, 37, 38, 39, 40, 41, 42, 43, 44, 45, 46, 47, 48, 49, 50, 51, 52, 53, 54, 55, 56] vs (fun j => ([.bool true, .bool true, .agg #[.slice a1 n1 k1, .slice a2 n2 k2], .int .i64 r, .agg #[.slice a1 n1 k1, .slice a2 n2 k2], .int .i64 r, .bool true, .bool true, .bool true, .agg #[.slice a1 n1 k1, .slice a2 n2 k2], .int .i64 d, .agg #[.slice a1 n1 k1, .slice a2 n2 k2], .int .i64 d, .bool true, .bool true, .bool true, .agg #[.slice a1 n1 k1, .slice a2 n2 k2], .int .i64 n, .agg #[.slice a1 n1 k1, .slice a2 n2 k2], .int .i64 n, .bool true, .bool true, .bool true, .agg #[.slice a1 n1 k1, .slice a2 n2 k2], .agg #[.slice c1 m1 j1, .slice c2 m2 j2], .bool eq, .agg #[.slice a1 n1 k1, .slice a2 n2 k2], .agg #[.slice c1 m1 j1, .slice c2 m2 j2], .bool eq, .bool true, .bool true, .bool true, .agg #[.slice a1 n1 k1, .slice a2 n2 k2], .agg #[.slice a1 n1 k1, .slice a2 n2 k2], .bool true, .bool true, .bool true, .string s', .bool nm, .string s', .bool nm, .bool true, .bool true] : List Value).getD j undef) (fun j hj => hφ j hj)]
      clear hφ vs
      refine op_list (by rfl) ?_
      simp only [fill, fillA, List.getD_cons_zero, List.getD_cons_succ, Nat.reduceAdd]
      go_wp2_with fail
      refine withK_intro ?_
      go_wp2
      go_ret
      exact ⟨rfl, HB.out.trans (HR.out.mono HB.out.size)⟩
    case hr3 => exact (Below.refl _ _).drew

theorem tells_walk {H : Type} {d0 d1 d2 : DataW H} (a1 : Option Addr) (n1 k1 : Nat) (a2 : Option Addr) (n2 k2 : Nat) (p : PT) (c1 : Option Addr) (m1 j1 : Nat) (c2 : Option Addr) (m2 j2 : Nat) (q : PT) (s : ByteArray) (hs : s.size ≤ 140737488351232) (w : World)
    (o0 : PR w (.slice a1 n1 k1) (.slice a2 n2 k2) p ∧ k1 ≤ 2199023255488 ∧ k2 ≤ 1353245080300) (o1 : PR w (.slice c1 m1 j1) (.slice c2 m2 j2) q ∧ j1 ≤ 2199023255488 ∧ j2 ≤ 1353245080300)
    (b0 : p.nodes.length ≤ Rows.uptoBulk d0) (hnum : p.numP) (hbk : Rows.uptoSmall H ([d0, d1, d2] ++ []) = true) (ht : Tab w) :
    Calls Tryd.prog 3 #[.agg #[.slice a1 n1 k1, .slice a2 n2 k2], .agg #[.slice c1 m1 j1, .slice c2 m2 j2], .string s] w fun e w' => e = .returned (.bool true) ∧ Below w.heap.size w w' := by
  have hb : Rows.uptoBulk d0 + (Rows.uptoBulk d1 + (Rows.uptoBulk d2 + 0)) ≤ 1048576 := of_decide_eq_true hbk
  obtain ⟨s', hs'⟩ := cut_100 s
  exact tells_core a1 a2 n1 n2 k1 k2 p c1 c2 m1 m2 j1 j2 q s s' hs hs' w ht o0.1 o1.1 hnum (by omega)
end Go.Proofs.YtplckmpamekloaaDoor
