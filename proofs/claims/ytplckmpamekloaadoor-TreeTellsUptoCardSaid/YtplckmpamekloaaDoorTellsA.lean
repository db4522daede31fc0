/- The document's Alike, Same. -/
import Derived.Test.YtplckmpamekloaaDoorTellsP
import Derived.Test.YtplckmpamekloaaDoorTreeEqual
import Derived.Deep.QuietTactic
import Derived.BigQuiet
namespace Go.Proofs.YtplckmpamekloaaDoor
open Go.RowKit Go.Sort
set_option linter.unusedVariables false

set_option maxHeartbeats 8000000 in
set_option maxRecDepth 1000000 in
theorem ralike_in (w0 : World) {v : Value} {l : List ET} (h : ESl w0 v l) : ∀ (v' : Value) (r : List ET) (q : Bool) (hq : ET.sameL l r = q) (w : World) (hw : Below w0.heap.size w0 w) (h' : ESl w0 v' r),
    Calls Tryd.prog 53 #[v, v'] w fun e w' => e = .returned (.bool q) ∧ Below w.heap.size w w' := by
  induction h with
  | mk a b off cap l f ha hc hm hcell hsub ih =>
    intro v' r q hq w hw h'
    cases h' with
    | mk a' b' off' cap' _ f' ha' hc' hm' hcell' hsub' =>
      have HA := Lib.hid ha
      have HA' := Lib.hid ha'
      have HC := Lib.hid hcell
      have HC' := Lib.hid hcell'
      have HW := Lib.hid hw
      have hm1 : cap ≤ 9223372036854775807 := hm
      have hm1' : cap' ≤ 9223372036854775807 := hm'
      rw [ET.sameL_eq] at hq
      have HQ := Lib.hid hq
      have HIH := Lib.hid ih
      have HSub := Lib.hid hsub
      have HSub' := Lib.hid hsub'
      clear ih hsub hsub'
      clear ha ha' hcell hcell' hw hm hm' hq
      have HB := hb_start w
      by_cases hlen : l.length = r.length
      · have hne : ((l.length : Int) != (r.length : Int)) = false := by rw [hlen]; simp
        have HL := Lib.hid hlen
        clear hlen
        go_enter Tryd.func53, Tryd.ntmps53
        go_wp2
        go_loopw [5] (fun i wr => ∃ k : Nat, i = .int .i64 k ∧ k ≤ l.length ∧ Hid (Below w.heap.size w wr) ∧ Hid (allB k (fun i => ET.same (l.getD i default) (r.getD i default)) = true)) (fun i _ => l.length - (intOf i).toNat)
        case atStart => exact ⟨0, rfl, by omega, HB, by show _ = _; rfl⟩
        case round =>
          clear HB hne
          obtain ⟨k, rfl, hk, HB, HK⟩ := hrel
          by_cases hlt : k < l.length
          · have hlt' : k < r.length := by have := HL.out; omega
            obtain rfl := HA.out (by omega)
            obtain rfl := HA'.out (by omega)
            have WB : Below w0.heap.size w0 wr := HW.out.trans (HB.out.mono HW.out.size)
            have HWB := Lib.hid WB
            have HX : Hid (allB (k + 1) (fun i => ET.same (l.getD i default) (r.getD i default)) = (allB k (fun i => ET.same (l.getD i default) (r.getD i default)) && ET.same (l.getD k default) (r.getD k default))) := allB_next k _
            have HN : Hid (ET.same (l.getD k default) (r.getD k default) = false → allB l.length (fun i => ET.same (l.getD i default) (r.getD i default)) = false) := allB_no l.length k (fun i => ET.same (l.getD i default) (r.getD i default)) hlt
            obtain ⟨e0, e1, e2, e3⟩ := HC.out k hlt
            obtain ⟨e0', e1', e2', e3'⟩ := HC'.out k hlt'
            have HE0 := Lib.hid (cell_below HWB e0)
            have HE1 := Lib.hid (cell_below HWB e1)
            have HE2 := Lib.hid (cell_below HWB e2)
            have HE3 := Lib.hid (cell_below HWB e3)
            have HE0' := Lib.hid (cell_below HWB e0')
            have HE1' := Lib.hid (cell_below HWB e1')
            have HE2' := Lib.hid (cell_below HWB e2')
            have HE3' := Lib.hid (cell_below HWB e3')
            have HI := Lib.hid (HIH.out k hlt)
            have hsh := (HSub.out k hlt).shape0
            have hsh' := (HSub'.out k hlt').shape0
            have HS' := Lib.hid (HSub'.out k hlt')
            clear e0 e1 e2 e3 e0' e1' e2' e3' WB
            generalize l.getD k default = x at HE0 HE1 HE2 HX HN HI hsh
            generalize r.getD k default = y at HE0' HE1' HE2' HX HN HS' hsh'
            generalize f k = pv at HE3 HI hsh
            generalize f' k = pv' at HE3' HS' hsh'
            obtain ⟨o, n, s, ps⟩ := x
            obtain ⟨o', n', s', ps'⟩ := y
            simp only [ET.op, ET.num, ET.name, ET.parts] at HE0 HE1 HE2 HE0' HE1' HE2' HI HS' hsh hsh'
            obtain ⟨pa, pc, rfl⟩ := hsh
            obtain ⟨pa', pc', rfl⟩ := hsh'
            obtain ⟨z, hz⟩ : ∃ z, ET.sameL ps ps' = z := ⟨_, rfl⟩
            obtain ⟨b1, g1⟩ : ∃ z, (o == o') = z := ⟨_, rfl⟩
            obtain ⟨b2, g2⟩ : ∃ z, (n == n') = z := ⟨_, rfl⟩
            obtain ⟨b3, g3⟩ : ∃ z, (s.toList == s'.toList) = z := ⟨_, rfl⟩
            have HT : Hid (ET.same (.mk o n s ps) (.mk o' n' s' ps') = (b1 && (b2 && (b3 && z)))) := by show _ = _; rw [← g1, ← g2, ← g3, ← hz]; rfl
            have HZ := Lib.hid hz
            have G1 := Lib.hid g1
            have G2 := Lib.hid g2
            have G3 := Lib.hid g3
            clear hz g1 g2 g3
            go_wp2_with fail
            refine region_flow rfl 11 rfl (by decide +kernel) [18, 19, 20, 21, 22, 23, 24, 25, 26, 27, 28] (by decide +kernel) rfl (by decide) (by simp) (fun w w' => Below w.heap.size w w') (fun w => Below wr.heap.size wr w)
              (fun j v _ => v = ([.slice (some ⟨b, off, none⟩) l.length cap, .int .i64 (k : Int), .pointer (some ⟨b, off + k * 4, none⟩), .pointer (some ⟨b, off + k * 4 + 3, none⟩), .slice pa ps.length pc, .slice (some ⟨b', off', none⟩) r.length cap', .int .i64 (k : Int), .pointer (some ⟨b', off' + k * 4, none⟩), .pointer (some ⟨b', off' + k * 4 + 3, none⟩), .slice pa' ps'.length pc', .bool z] : List Value).getD j undef) (fun _ _ _ _ _ h => h) ?hr6 ?hs6 ?hl6
            case hs6 =>
              intro ix hix a wx hR hout hdep
              have hix' : ix = 0 ∨ ix = 1 ∨ ix = 2 ∨ ix = 3 ∨ ix = 4 ∨ ix = 5 ∨ ix = 6 ∨ ix = 7 ∨ ix = 8 ∨ ix = 9 ∨ ix = 10 := by omega
              rcases hix' with rfl | rfl | rfl | rfl | rfl | rfl | rfl | rfl | rfl | rfl | rfl
              · have HR := Lib.hid hR
                clear hR
                have e0 := hout 0 (by decide)
                clear hout hdep
                refine op_list (by rfl) ?_
                go_wp2
                exact withK_intro ⟨_, rfl, Below.refl _ _, HR.out, rfl⟩
              · have HR := Lib.hid hR
                clear hR
                have e5 := hout 5 (by decide)
                clear hout hdep
                refine op_list (by rfl) ?_
                go_wp2
                exact withK_intro ⟨_, rfl, Below.refl _ _, HR.out, rfl⟩
              · have HR := Lib.hid hR
                clear hR
                have e18 : a.tmps[18]? = some (.slice (some ⟨b, off, none⟩) l.length cap) := flow_dep hdep 0 18 (by kernel_rfl) rfl
                have e19 : a.tmps[19]? = some (.int .i64 (k : Int)) := flow_dep hdep 1 19 (by kernel_rfl) rfl
                clear hout hdep
                refine op_list (by rfl) ?_
                go_wp2
                exact withK_intro ⟨_, rfl, Below.refl _ _, HR.out, rfl⟩
              · have HR := Lib.hid hR
                clear hR
                have e20 : a.tmps[20]? = some (.pointer (some ⟨b, off + k * 4, none⟩)) := flow_dep hdep 2 20 (by kernel_rfl) rfl
                clear hout hdep
                refine op_list (by rfl) ?_
                go_wp2
                exact withK_intro ⟨_, rfl, Below.refl _ _, HR.out, rfl⟩
              · have HR := Lib.hid hR
                clear hR
                have e21 : a.tmps[21]? = some (.pointer (some ⟨b, off + k * 4 + 3, none⟩)) := flow_dep hdep 3 21 (by kernel_rfl) rfl
                have z := cell_below HR HE3.out
                clear hout hdep
                refine op_list (by rfl) ?_
                go_wp2
                exact withK_intro ⟨_, rfl, Below.refl _ _, HR.out, rfl⟩
              · have HR := Lib.hid hR
                clear hR
                have e1 := hout 1 (by decide)
                clear hout hdep
                refine op_list (by rfl) ?_
                go_wp2
                exact withK_intro ⟨_, rfl, Below.refl _ _, HR.out, rfl⟩
              · have HR := Lib.hid hR
                clear hR
                have e5 := hout 5 (by decide)
                clear hout hdep
                refine op_list (by rfl) ?_
                go_wp2
                exact withK_intro ⟨_, rfl, Below.refl _ _, HR.out, rfl⟩
              · have HR := Lib.hid hR
                clear hR
                have e23 : a.tmps[23]? = some (.slice (some ⟨b', off', none⟩) r.length cap') := flow_dep hdep 5 23 (by kernel_rfl) rfl
                have e24 : a.tmps[24]? = some (.int .i64 (k : Int)) := flow_dep hdep 6 24 (by kernel_rfl) rfl
                clear hout hdep
                refine op_list (by rfl) ?_
                go_wp2
                exact withK_intro ⟨_, rfl, Below.refl _ _, HR.out, rfl⟩
              · have HR := Lib.hid hR
                clear hR
                have e25 : a.tmps[25]? = some (.pointer (some ⟨b', off' + k * 4, none⟩)) := flow_dep hdep 7 25 (by kernel_rfl) rfl
                clear hout hdep
                refine op_list (by rfl) ?_
                go_wp2
                exact withK_intro ⟨_, rfl, Below.refl _ _, HR.out, rfl⟩
              · have HR := Lib.hid hR
                clear hR
                have e26 : a.tmps[26]? = some (.pointer (some ⟨b', off' + k * 4 + 3, none⟩)) := flow_dep hdep 8 26 (by kernel_rfl) rfl
                have z := cell_below HR HE3'.out
                clear hout hdep
                refine op_list (by rfl) ?_
                go_wp2
                exact withK_intro ⟨_, rfl, Below.refl _ _, HR.out, rfl⟩
              · have HR := Lib.hid hR
                clear hR
                have e22 : a.tmps[22]? = some (.slice pa ps.length pc) := flow_dep hdep 4 22 (by kernel_rfl) rfl
                have e27 : a.tmps[27]? = some (.slice pa' ps'.length pc') := flow_dep hdep 9 27 (by kernel_rfl) rfl
                clear hout hdep
                refine op_list (by rfl) ?_
                go_wp2_with (go_at_call 53; refine (HI.out _ ps' _ HZ.out _ (HWB.out.trans (HR.out.mono HWB.out.size)) HS'.out).mono ?_; rintro e w' ⟨rfl, hb⟩; have HBc := Lib.hid hb; clear hb)
                exact withK_intro ⟨_, rfl, HBc.out, HR.out.trans (HBc.out.mono HR.out.size), rfl⟩
            case hl6 =>
              intro vs wx hR hφ
              have HR := Lib.hid hR
              clear hR
              rw [fill_congr _ [18, 19, 20, 21, 22, 23, 24, 25, 26, 27, 28] vs (fun j => ([.slice (some ⟨b, off, none⟩) l.length cap, .int .i64 (k : Int), .pointer (some ⟨b, off + k * 4, none⟩), .pointer (some ⟨b, off + k * 4 + 3, none⟩), .slice pa ps.length pc, .slice (some ⟨b', off', none⟩) r.length cap', .int .i64 (k : Int), .pointer (some ⟨b', off' + k * 4, none⟩), .pointer (some ⟨b', off' + k * 4 + 3, none⟩), .slice pa' ps'.length pc', .bool z] : List Value).getD j undef) (fun j hj => hφ j hj)]
              clear hφ vs
              refine op_list (by rfl) ?_
              simp only [fill, fillA, List.getD_cons_zero, List.getD_cons_succ, Nat.reduceAdd]
              go_wp2_with fail
              refine withK_intro ?_
              go_wp2_with fail
              have HRz : Hid (Below wr.heap.size wr wx) := HR
              have e0 := cell_below HR HE0.out
              have e1 := cell_below HR HE1.out
              have e2 := cell_below HR HE2.out
              have e0' := cell_below HR HE0'.out
              have e1' := cell_below HR HE1'.out
              have e2' := cell_below HR HE2'.out
              clear HR
              cases b1 <;> cases b2 <;> cases b3 <;> cases z
              all_goals
                first | have h1 : (o != o') = false := by simp only [bne, G1.out, Bool.not_true] | have h1 : (o != o') = true := by simp only [bne, G1.out, Bool.not_false]
                first | have h2 : (n != n') = false := by simp only [bne, G2.out, Bool.not_true] | have h2 : (n != n') = true := by simp only [bne, G2.out, Bool.not_false]
                have h3 := G3.out
                go_quiet (fail)
                go_wp2
                first
                  | (go_roundw
                     case rel => exact ⟨k + 1, by go_num, by omega, hb_step HB (below_drewN HRz.out _), by show _ = _; rw [HX.out, HK.out, HT.out]; rfl⟩
                     case measure => simp [intOf]; omega)
                  | (go_ret
                     obtain rfl : q = false := by rw [← HQ.out, HN.out (HT.out.trans rfl), Bool.and_false]
                     exact ⟨rfl, (hb_step HB (below_drewN HRz.out _)).out⟩)
            case hr6 => exact (Below.refl _ _).drew
          · obtain rfl : k = l.length := by omega
            go_wp2
            go_ret
            obtain rfl : q = true := by rw [← HQ.out, HK.out, decide_eq_true HL.out]; rfl
            exact ⟨rfl, HB.out⟩
      · have hne : ((l.length : Int) != (r.length : Int)) = true := by simp; omega
        have HL := Lib.hid hlen
        clear hlen
        go_enter Tryd.func53, Tryd.ntmps53
        go_wp2
        go_ret
        obtain rfl : q = false := by rw [← HQ.out, decide_eq_false HL.out]; rfl
        exact ⟨rfl, HB.out⟩

set_option maxHeartbeats 8000000 in
set_option maxRecDepth 1000000 in
theorem rsame_in (w0 : World) {v : Value} {l : List ST} (h : SSl w0 v l) : ∀ (v' : Value) (r : List ST) (q : Bool) (hq : ST.sameL l r = q) (w : World) (hw : Below w0.heap.size w0 w) (h' : SSl w0 v' r),
    Calls Tryd.prog 35 #[v, v'] w fun e w' => e = .returned (.bool q) ∧ Below w.heap.size w w' := by
  induction h with
  | mk a b off cap l f g hh ha hc hm hcell hsub hsub1 hsub2 ih1 ih2 =>
    intro v' r q hq w hw h'
    cases h' with
    | mk a' b' off' cap' _ f' g' hh' ha' hc' hm' hcell' hsub' hsub1' hsub2' =>
      have HA := Lib.hid ha
      have HA' := Lib.hid ha'
      have HC := Lib.hid hcell
      have HC' := Lib.hid hcell'
      have HW := Lib.hid hw
      have hm1 : cap ≤ 9223372036854775807 := hm
      have hm1' : cap' ≤ 9223372036854775807 := hm'
      rw [ST.sameL_eq] at hq
      have HQ := Lib.hid hq
      have HIH1 := Lib.hid ih1
      have HIH2 := Lib.hid ih2
      have HSub := Lib.hid hsub
      have HSub1 := Lib.hid hsub1
      have HSub2 := Lib.hid hsub2
      have HSub' := Lib.hid hsub'
      have HSub1' := Lib.hid hsub1'
      have HSub2' := Lib.hid hsub2'
      clear ih1 ih2 hsub hsub1 hsub2 hsub' hsub1' hsub2'
      clear ha ha' hcell hcell' hw hm hm' hq
      have HB := hb_start w
      by_cases hlen : l.length = r.length
      · have hne : ((l.length : Int) != (r.length : Int)) = false := by rw [hlen]; simp
        have HL := Lib.hid hlen
        clear hlen
        go_enter Tryd.func35, Tryd.ntmps35
        go_wp2
        go_loopw [5] (fun i wr => ∃ k : Nat, i = .int .i64 k ∧ k ≤ l.length ∧ Hid (Below w.heap.size w wr) ∧ Hid (allB k (fun i => ST.same (l.getD i default) (r.getD i default)) = true)) (fun i _ => l.length - (intOf i).toNat)
        case atStart => exact ⟨0, rfl, by omega, HB, by show _ = _; rfl⟩
        case round =>
          clear HB hne
          obtain ⟨k, rfl, hk, HB, HK⟩ := hrel
          by_cases hlt : k < l.length
          · have hlt' : k < r.length := by have := HL.out; omega
            obtain rfl := HA.out (by omega)
            obtain rfl := HA'.out (by omega)
            have WB : Below w0.heap.size w0 wr := HW.out.trans (HB.out.mono HW.out.size)
            have HWB := Lib.hid WB
            have HX : Hid (allB (k + 1) (fun i => ST.same (l.getD i default) (r.getD i default)) = (allB k (fun i => ST.same (l.getD i default) (r.getD i default)) && ST.same (l.getD k default) (r.getD k default))) := allB_next k _
            have HN : Hid (ST.same (l.getD k default) (r.getD k default) = false → allB l.length (fun i => ST.same (l.getD i default) (r.getD i default)) = false) := allB_no l.length k (fun i => ST.same (l.getD i default) (r.getD i default)) hlt
            obtain ⟨e0, e1, e2, e3, e4, e5⟩ := HC.out k hlt
            obtain ⟨e0', e1', e2', e3', e4', e5'⟩ := HC'.out k hlt'
            have HE0 := Lib.hid (cell_below HWB e0)
            have HE1 := Lib.hid (cell_below HWB e1)
            have HE2 := Lib.hid (cell_below HWB e2)
            have HE3 := Lib.hid (cell_below HWB e3)
            have HE4 := Lib.hid (cell_below HWB e4)
            have HE5 := Lib.hid (cell_below HWB e5)
            have HE0' := Lib.hid (cell_below HWB e0')
            have HE1' := Lib.hid (cell_below HWB e1')
            have HE2' := Lib.hid (cell_below HWB e2')
            have HE3' := Lib.hid (cell_below HWB e3')
            have HE4' := Lib.hid (cell_below HWB e4')
            have HE5' := Lib.hid (cell_below HWB e5')
            have HI := Lib.hid (HSub.out k hlt)
            have HI1 := Lib.hid (HIH1.out k hlt)
            have HI2 := Lib.hid (HIH2.out k hlt)
            have hsh := (HSub.out k hlt).shape0
            have hsh1 := (HSub1.out k hlt).shape0
            have hsh2 := (HSub2.out k hlt).shape0
            have hsh' := (HSub'.out k hlt').shape0
            have hsh1' := (HSub1'.out k hlt').shape0
            have hsh2' := (HSub2'.out k hlt').shape0
            have HS' := Lib.hid (HSub'.out k hlt')
            have HS1' := Lib.hid (HSub1'.out k hlt')
            have HS2' := Lib.hid (HSub2'.out k hlt')
            clear e0 e1 e2 e3 e4 e5 e0' e1' e2' e3' e4' e5' WB
            generalize l.getD k default = x at HE0 HE1 HE2 HX HN HI HI1 HI2 hsh hsh1 hsh2
            generalize r.getD k default = y at HE0' HE1' HE2' HX HN HS' HS1' HS2' hsh' hsh1' hsh2'
            generalize f k = pv at HE3 HI hsh
            generalize f' k = pv' at HE3' HS' hsh'
            generalize g k = pv1 at HE4 HI1 hsh1
            generalize g' k = pv1' at HE4' HS1' hsh1'
            generalize hh k = pv2 at HE5 HI2 hsh2
            generalize hh' k = pv2' at HE5' HS2' hsh2'
            obtain ⟨o, n, s, ps, bs, es⟩ := x
            obtain ⟨o', n', s', ps', bs', es'⟩ := y
            simp only [ST.op, ST.num, ST.name, ST.parts, ST.body, ST.els] at HE0 HE1 HE2 HE0' HE1' HE2' HI HI1 HI2 HS' HS1' HS2' hsh hsh1 hsh2 hsh' hsh1' hsh2'
            obtain ⟨pa, pc, rfl⟩ := hsh
            obtain ⟨pa', pc', rfl⟩ := hsh'
            obtain ⟨ba, bc, rfl⟩ := hsh1
            obtain ⟨ba', bc', rfl⟩ := hsh1'
            obtain ⟨ea, ec, rfl⟩ := hsh2
            obtain ⟨ea', ec', rfl⟩ := hsh2'
            obtain ⟨z1, hz1⟩ : ∃ z, ET.sameL ps ps' = z := ⟨_, rfl⟩
            obtain ⟨z2, hz2⟩ : ∃ z, ST.sameL bs bs' = z := ⟨_, rfl⟩
            obtain ⟨z3, hz3⟩ : ∃ z, ST.sameL es es' = z := ⟨_, rfl⟩
            obtain ⟨b1, g1⟩ : ∃ z, (o == o') = z := ⟨_, rfl⟩
            obtain ⟨b2, g2⟩ : ∃ z, (n == n') = z := ⟨_, rfl⟩
            obtain ⟨b3, g3⟩ : ∃ z, (s.toList == s'.toList) = z := ⟨_, rfl⟩
            have HT : Hid (ST.same (.mk o n s ps bs es) (.mk o' n' s' ps' bs' es') = (b1 && (b3 && (b2 && (z1 && (z2 && z3)))))) := by show _ = _; rw [← g1, ← g2, ← g3, ← hz1, ← hz2, ← hz3]; rfl
            have HZ1 := Lib.hid hz1
            have HZ2 := Lib.hid hz2
            have HZ3 := Lib.hid hz3
            have G1 := Lib.hid g1
            have G2 := Lib.hid g2
            have G3 := Lib.hid g3
            clear hz1 hz2 hz3 g1 g2 g3
            go_wp2_with fail
            refine region_flow rfl 11 rfl (by decide +kernel) [20, 21, 22, 23, 24, 25, 26, 27, 28, 29, 30] (by decide +kernel) rfl (by decide) (by simp) (fun w w' => Below w.heap.size w w') (fun w => Below wr.heap.size wr w)
              (fun j v _ => v = ([.slice (some ⟨b, off, none⟩) l.length cap, .int .i64 (k : Int), .pointer (some ⟨b, off + k * 6, none⟩), .pointer (some ⟨b, off + k * 6 + 3, none⟩), .slice pa ps.length pc, .slice (some ⟨b', off', none⟩) r.length cap', .int .i64 (k : Int), .pointer (some ⟨b', off' + k * 6, none⟩), .pointer (some ⟨b', off' + k * 6 + 3, none⟩), .slice pa' ps'.length pc', .bool z1] : List Value).getD j undef) (fun _ _ _ _ _ h => h) ?hr6 ?hs6 ?hl6
            case hs6 =>
              intro ix hix a wx hR hout hdep
              have hix' : ix = 0 ∨ ix = 1 ∨ ix = 2 ∨ ix = 3 ∨ ix = 4 ∨ ix = 5 ∨ ix = 6 ∨ ix = 7 ∨ ix = 8 ∨ ix = 9 ∨ ix = 10 := by omega
              rcases hix' with rfl | rfl | rfl | rfl | rfl | rfl | rfl | rfl | rfl | rfl | rfl
              · have HR := Lib.hid hR
                clear hR
                have e0 := hout 0 (by decide)
                clear hout hdep
                refine op_list (by rfl) ?_
                go_wp2
                exact withK_intro ⟨_, rfl, Below.refl _ _, HR.out, rfl⟩
              · have HR := Lib.hid hR
                clear hR
                have e5 := hout 5 (by decide)
                clear hout hdep
                refine op_list (by rfl) ?_
                go_wp2
                exact withK_intro ⟨_, rfl, Below.refl _ _, HR.out, rfl⟩
              · have HR := Lib.hid hR
                clear hR
                have e20 : a.tmps[20]? = some (.slice (some ⟨b, off, none⟩) l.length cap) := flow_dep hdep 0 20 (by kernel_rfl) rfl
                have e21 : a.tmps[21]? = some (.int .i64 (k : Int)) := flow_dep hdep 1 21 (by kernel_rfl) rfl
                clear hout hdep
                refine op_list (by rfl) ?_
                go_wp2
                exact withK_intro ⟨_, rfl, Below.refl _ _, HR.out, rfl⟩
              · have HR := Lib.hid hR
                clear hR
                have e22 : a.tmps[22]? = some (.pointer (some ⟨b, off + k * 6, none⟩)) := flow_dep hdep 2 22 (by kernel_rfl) rfl
                clear hout hdep
                refine op_list (by rfl) ?_
                go_wp2
                exact withK_intro ⟨_, rfl, Below.refl _ _, HR.out, rfl⟩
              · have HR := Lib.hid hR
                clear hR
                have e23 : a.tmps[23]? = some (.pointer (some ⟨b, off + k * 6 + 3, none⟩)) := flow_dep hdep 3 23 (by kernel_rfl) rfl
                have z := cell_below HR HE3.out
                clear hout hdep
                refine op_list (by rfl) ?_
                go_wp2
                exact withK_intro ⟨_, rfl, Below.refl _ _, HR.out, rfl⟩
              · have HR := Lib.hid hR
                clear hR
                have e1 := hout 1 (by decide)
                clear hout hdep
                refine op_list (by rfl) ?_
                go_wp2
                exact withK_intro ⟨_, rfl, Below.refl _ _, HR.out, rfl⟩
              · have HR := Lib.hid hR
                clear hR
                have e5 := hout 5 (by decide)
                clear hout hdep
                refine op_list (by rfl) ?_
                go_wp2
                exact withK_intro ⟨_, rfl, Below.refl _ _, HR.out, rfl⟩
              · have HR := Lib.hid hR
                clear hR
                have e25 : a.tmps[25]? = some (.slice (some ⟨b', off', none⟩) r.length cap') := flow_dep hdep 5 25 (by kernel_rfl) rfl
                have e26 : a.tmps[26]? = some (.int .i64 (k : Int)) := flow_dep hdep 6 26 (by kernel_rfl) rfl
                clear hout hdep
                refine op_list (by rfl) ?_
                go_wp2
                exact withK_intro ⟨_, rfl, Below.refl _ _, HR.out, rfl⟩
              · have HR := Lib.hid hR
                clear hR
                have e27 : a.tmps[27]? = some (.pointer (some ⟨b', off' + k * 6, none⟩)) := flow_dep hdep 7 27 (by kernel_rfl) rfl
                clear hout hdep
                refine op_list (by rfl) ?_
                go_wp2
                exact withK_intro ⟨_, rfl, Below.refl _ _, HR.out, rfl⟩
              · have HR := Lib.hid hR
                clear hR
                have e28 : a.tmps[28]? = some (.pointer (some ⟨b', off' + k * 6 + 3, none⟩)) := flow_dep hdep 8 28 (by kernel_rfl) rfl
                have z := cell_below HR HE3'.out
                clear hout hdep
                refine op_list (by rfl) ?_
                go_wp2
                exact withK_intro ⟨_, rfl, Below.refl _ _, HR.out, rfl⟩
              · have HR := Lib.hid hR
                clear hR
                have e24 : a.tmps[24]? = some (.slice pa ps.length pc) := flow_dep hdep 4 24 (by kernel_rfl) rfl
                have e29 : a.tmps[29]? = some (.slice pa' ps'.length pc') := flow_dep hdep 9 29 (by kernel_rfl) rfl
                clear hout hdep
                refine op_list (by rfl) ?_
                go_wp2_with (go_at_call 53; refine (ralike_in w0 HI.out _ ps' _ HZ1.out _ (HWB.out.trans (HR.out.mono HWB.out.size)) HS'.out).mono ?_; rintro e w' ⟨rfl, hb⟩; have HBc := Lib.hid hb; clear hb)
                exact withK_intro ⟨_, rfl, HBc.out, HR.out.trans (HBc.out.mono HR.out.size), rfl⟩
            case hl6 =>
              intro vs wx hR hφ
              have HR := Lib.hid hR
              clear hR
              rw [fill_congr _ [20, 21, 22, 23, 24, 25, 26, 27, 28, 29, 30] vs (fun j => ([.slice (some ⟨b, off, none⟩) l.length cap, .int .i64 (k : Int), .pointer (some ⟨b, off + k * 6, none⟩), .pointer (some ⟨b, off + k * 6 + 3, none⟩), .slice pa ps.length pc, .slice (some ⟨b', off', none⟩) r.length cap', .int .i64 (k : Int), .pointer (some ⟨b', off' + k * 6, none⟩), .pointer (some ⟨b', off' + k * 6 + 3, none⟩), .slice pa' ps'.length pc', .bool z1] : List Value).getD j undef) (fun j hj => hφ j hj)]
              clear hφ vs
              refine op_list (by rfl) ?_
              simp only [fill, fillA, List.getD_cons_zero, List.getD_cons_succ, Nat.reduceAdd]
              go_wp2_with fail
              refine withK_intro ?_
              go_wp2_with fail
              have HR6 : Hid (Below wr.heap.size wr wx) := HR
              refine region_flow rfl 11 rfl (by decide +kernel) [31, 32, 33, 34, 35, 36, 37, 38, 39, 40, 41] (by decide +kernel) rfl (by decide) (by simp) (fun w w' => Below w.heap.size w w') (fun w => Below wr.heap.size wr w)
                (fun j v _ => v = ([.slice (some ⟨b, off, none⟩) l.length cap, .int .i64 (k : Int), .pointer (some ⟨b, off + k * 6, none⟩), .pointer (some ⟨b, off + k * 6 + 4, none⟩), .slice ba bs.length bc, .slice (some ⟨b', off', none⟩) r.length cap', .int .i64 (k : Int), .pointer (some ⟨b', off' + k * 6, none⟩), .pointer (some ⟨b', off' + k * 6 + 4, none⟩), .slice ba' bs'.length bc', .bool z2] : List Value).getD j undef) (fun _ _ _ _ _ h => h) ?hr7 ?hs7 ?hl7
              case hs7 =>
                intro ix hix a wx hR hout hdep
                have hix' : ix = 0 ∨ ix = 1 ∨ ix = 2 ∨ ix = 3 ∨ ix = 4 ∨ ix = 5 ∨ ix = 6 ∨ ix = 7 ∨ ix = 8 ∨ ix = 9 ∨ ix = 10 := by omega
                rcases hix' with rfl | rfl | rfl | rfl | rfl | rfl | rfl | rfl | rfl | rfl | rfl
                · have HR := Lib.hid hR
                  clear hR
                  have e0 := hout 0 (by decide)
                  clear hout hdep
                  refine op_list (by rfl) ?_
                  go_wp2
                  exact withK_intro ⟨_, rfl, Below.refl _ _, HR.out, rfl⟩
                · have HR := Lib.hid hR
                  clear hR
                  have e5 := hout 5 (by decide)
                  clear hout hdep
                  refine op_list (by rfl) ?_
                  go_wp2
                  exact withK_intro ⟨_, rfl, Below.refl _ _, HR.out, rfl⟩
                · have HR := Lib.hid hR
                  clear hR
                  have e31 : a.tmps[31]? = some (.slice (some ⟨b, off, none⟩) l.length cap) := flow_dep hdep 0 31 (by kernel_rfl) rfl
                  have e32 : a.tmps[32]? = some (.int .i64 (k : Int)) := flow_dep hdep 1 32 (by kernel_rfl) rfl
                  clear hout hdep
                  refine op_list (by rfl) ?_
                  go_wp2
                  exact withK_intro ⟨_, rfl, Below.refl _ _, HR.out, rfl⟩
                · have HR := Lib.hid hR
                  clear hR
                  have e33 : a.tmps[33]? = some (.pointer (some ⟨b, off + k * 6, none⟩)) := flow_dep hdep 2 33 (by kernel_rfl) rfl
                  clear hout hdep
                  refine op_list (by rfl) ?_
                  go_wp2
                  exact withK_intro ⟨_, rfl, Below.refl _ _, HR.out, rfl⟩
                · have HR := Lib.hid hR
                  clear hR
                  have e34 : a.tmps[34]? = some (.pointer (some ⟨b, off + k * 6 + 4, none⟩)) := flow_dep hdep 3 34 (by kernel_rfl) rfl
                  have z := cell_below HR HE4.out
                  clear hout hdep
                  refine op_list (by rfl) ?_
                  go_wp2
                  exact withK_intro ⟨_, rfl, Below.refl _ _, HR.out, rfl⟩
                · have HR := Lib.hid hR
                  clear hR
                  have e1 := hout 1 (by decide)
                  clear hout hdep
                  refine op_list (by rfl) ?_
                  go_wp2
                  exact withK_intro ⟨_, rfl, Below.refl _ _, HR.out, rfl⟩
                · have HR := Lib.hid hR
                  clear hR
                  have e5 := hout 5 (by decide)
                  clear hout hdep
                  refine op_list (by rfl) ?_
                  go_wp2
                  exact withK_intro ⟨_, rfl, Below.refl _ _, HR.out, rfl⟩
                · have HR := Lib.hid hR
                  clear hR
                  have e36 : a.tmps[36]? = some (.slice (some ⟨b', off', none⟩) r.length cap') := flow_dep hdep 5 36 (by kernel_rfl) rfl
                  have e37 : a.tmps[37]? = some (.int .i64 (k : Int)) := flow_dep hdep 6 37 (by kernel_rfl) rfl
                  clear hout hdep
                  refine op_list (by rfl) ?_
                  go_wp2
                  exact withK_intro ⟨_, rfl, Below.refl _ _, HR.out, rfl⟩
                · have HR := Lib.hid hR
                  clear hR
                  have e38 : a.tmps[38]? = some (.pointer (some ⟨b', off' + k * 6, none⟩)) := flow_dep hdep 7 38 (by kernel_rfl) rfl
                  clear hout hdep
                  refine op_list (by rfl) ?_
                  go_wp2
                  exact withK_intro ⟨_, rfl, Below.refl _ _, HR.out, rfl⟩
                · have HR := Lib.hid hR
                  clear hR
                  have e39 : a.tmps[39]? = some (.pointer (some ⟨b', off' + k * 6 + 4, none⟩)) := flow_dep hdep 8 39 (by kernel_rfl) rfl
                  have z := cell_below HR HE4'.out
                  clear hout hdep
                  refine op_list (by rfl) ?_
                  go_wp2
                  exact withK_intro ⟨_, rfl, Below.refl _ _, HR.out, rfl⟩
                · have HR := Lib.hid hR
                  clear hR
                  have e35 : a.tmps[35]? = some (.slice ba bs.length bc) := flow_dep hdep 4 35 (by kernel_rfl) rfl
                  have e40 : a.tmps[40]? = some (.slice ba' bs'.length bc') := flow_dep hdep 9 40 (by kernel_rfl) rfl
                  clear hout hdep
                  refine op_list (by rfl) ?_
                  go_wp2_with (go_at_call 35; refine (HI1.out _ bs' _ HZ2.out _ (HWB.out.trans (HR.out.mono HWB.out.size)) HS1'.out).mono ?_; rintro e w' ⟨rfl, hb⟩; have HBc := Lib.hid hb; clear hb)
                  exact withK_intro ⟨_, rfl, HBc.out, HR.out.trans (HBc.out.mono HR.out.size), rfl⟩
              case hl7 =>
                intro vs wx hR hφ
                have HR := Lib.hid hR
                clear hR
                rw [fill_congr _ [31, 32, 33, 34, 35, 36, 37, 38, 39, 40, 41] vs (fun j => ([.slice (some ⟨b, off, none⟩) l.length cap, .int .i64 (k : Int), .pointer (some ⟨b, off + k * 6, none⟩), .pointer (some ⟨b, off + k * 6 + 4, none⟩), .slice ba bs.length bc, .slice (some ⟨b', off', none⟩) r.length cap', .int .i64 (k : Int), .pointer (some ⟨b', off' + k * 6, none⟩), .pointer (some ⟨b', off' + k * 6 + 4, none⟩), .slice ba' bs'.length bc', .bool z2] : List Value).getD j undef) (fun j hj => hφ j hj)]
                clear hφ vs
                refine op_list (by rfl) ?_
                simp only [fill, fillA, List.getD_cons_zero, List.getD_cons_succ, Nat.reduceAdd]
                go_wp2_with fail
                refine withK_intro ?_
                go_wp2_with fail
                have HR7 : Hid (Below wr.heap.size wr wx) := HR
                refine region_flow rfl 11 rfl (by decide +kernel) [42, 43, 44, 45, 46, 47, 48, 49, 50, 51, 52] (by decide +kernel) rfl (by decide) (by simp) (fun w w' => Below w.heap.size w w') (fun w => Below wr.heap.size wr w)
                  (fun j v _ => v = ([.slice (some ⟨b, off, none⟩) l.length cap, .int .i64 (k : Int), .pointer (some ⟨b, off + k * 6, none⟩), .pointer (some ⟨b, off + k * 6 + 5, none⟩), .slice ea es.length ec, .slice (some ⟨b', off', none⟩) r.length cap', .int .i64 (k : Int), .pointer (some ⟨b', off' + k * 6, none⟩), .pointer (some ⟨b', off' + k * 6 + 5, none⟩), .slice ea' es'.length ec', .bool z3] : List Value).getD j undef) (fun _ _ _ _ _ h => h) ?hr8 ?hs8 ?hl8
                case hs8 =>
                  intro ix hix a wx hR hout hdep
                  have hix' : ix = 0 ∨ ix = 1 ∨ ix = 2 ∨ ix = 3 ∨ ix = 4 ∨ ix = 5 ∨ ix = 6 ∨ ix = 7 ∨ ix = 8 ∨ ix = 9 ∨ ix = 10 := by omega
                  rcases hix' with rfl | rfl | rfl | rfl | rfl | rfl | rfl | rfl | rfl | rfl | rfl
                  · have HR := Lib.hid hR
                    clear hR
                    have e0 := hout 0 (by decide)
                    clear hout hdep
                    refine op_list (by rfl) ?_
                    go_wp2
                    exact withK_intro ⟨_, rfl, Below.refl _ _, HR.out, rfl⟩
                  · have HR := Lib.hid hR
                    clear hR
                    have e5 := hout 5 (by decide)
                    clear hout hdep
                    refine op_list (by rfl) ?_
                    go_wp2
                    exact withK_intro ⟨_, rfl, Below.refl _ _, HR.out, rfl⟩
                  · have HR := Lib.hid hR
                    clear hR
                    have e42 : a.tmps[42]? = some (.slice (some ⟨b, off, none⟩) l.length cap) := flow_dep hdep 0 42 (by kernel_rfl) rfl
                    have e43 : a.tmps[43]? = some (.int .i64 (k : Int)) := flow_dep hdep 1 43 (by kernel_rfl) rfl
                    clear hout hdep
                    refine op_list (by rfl) ?_
                    go_wp2
                    exact withK_intro ⟨_, rfl, Below.refl _ _, HR.out, rfl⟩
                  · have HR := Lib.hid hR
                    clear hR
                    have e44 : a.tmps[44]? = some (.pointer (some ⟨b, off + k * 6, none⟩)) := flow_dep hdep 2 44 (by kernel_rfl) rfl
                    clear hout hdep
                    refine op_list (by rfl) ?_
                    go_wp2
                    exact withK_intro ⟨_, rfl, Below.refl _ _, HR.out, rfl⟩
                  · have HR := Lib.hid hR
                    clear hR
                    have e45 : a.tmps[45]? = some (.pointer (some ⟨b, off + k * 6 + 5, none⟩)) := flow_dep hdep 3 45 (by kernel_rfl) rfl
                    have z := cell_below HR HE5.out
                    clear hout hdep
                    refine op_list (by rfl) ?_
                    go_wp2
                    exact withK_intro ⟨_, rfl, Below.refl _ _, HR.out, rfl⟩
                  · have HR := Lib.hid hR
                    clear hR
                    have e1 := hout 1 (by decide)
                    clear hout hdep
                    refine op_list (by rfl) ?_
                    go_wp2
                    exact withK_intro ⟨_, rfl, Below.refl _ _, HR.out, rfl⟩
                  · have HR := Lib.hid hR
                    clear hR
                    have e5 := hout 5 (by decide)
                    clear hout hdep
                    refine op_list (by rfl) ?_
                    go_wp2
                    exact withK_intro ⟨_, rfl, Below.refl _ _, HR.out, rfl⟩
                  · have HR := Lib.hid hR
                    clear hR
                    have e47 : a.tmps[47]? = some (.slice (some ⟨b', off', none⟩) r.length cap') := flow_dep hdep 5 47 (by kernel_rfl) rfl
                    have e48 : a.tmps[48]? = some (.int .i64 (k : Int)) := flow_dep hdep 6 48 (by kernel_rfl) rfl
                    clear hout hdep
                    refine op_list (by rfl) ?_
                    go_wp2
                    exact withK_intro ⟨_, rfl, Below.refl _ _, HR.out, rfl⟩
                  · have HR := Lib.hid hR
                    clear hR
                    have e49 : a.tmps[49]? = some (.pointer (some ⟨b', off' + k * 6, none⟩)) := flow_dep hdep 7 49 (by kernel_rfl) rfl
                    clear hout hdep
                    refine op_list (by rfl) ?_
                    go_wp2
                    exact withK_intro ⟨_, rfl, Below.refl _ _, HR.out, rfl⟩
                  · have HR := Lib.hid hR
                    clear hR
                    have e50 : a.tmps[50]? = some (.pointer (some ⟨b', off' + k * 6 + 5, none⟩)) := flow_dep hdep 8 50 (by kernel_rfl) rfl
                    have z := cell_below HR HE5'.out
                    clear hout hdep
                    refine op_list (by rfl) ?_
                    go_wp2
                    exact withK_intro ⟨_, rfl, Below.refl _ _, HR.out, rfl⟩
                  · have HR := Lib.hid hR
                    clear hR
                    have e46 : a.tmps[46]? = some (.slice ea es.length ec) := flow_dep hdep 4 46 (by kernel_rfl) rfl
                    have e51 : a.tmps[51]? = some (.slice ea' es'.length ec') := flow_dep hdep 9 51 (by kernel_rfl) rfl
                    clear hout hdep
                    refine op_list (by rfl) ?_
                    go_wp2_with (go_at_call 35; refine (HI2.out _ es' _ HZ3.out _ (HWB.out.trans (HR.out.mono HWB.out.size)) HS2'.out).mono ?_; rintro e w' ⟨rfl, hb⟩; have HBc := Lib.hid hb; clear hb)
                    exact withK_intro ⟨_, rfl, HBc.out, HR.out.trans (HBc.out.mono HR.out.size), rfl⟩
                case hl8 =>
                  intro vs wx hR hφ
                  have HR := Lib.hid hR
                  clear hR
                  rw [fill_congr _ [42, 43, 44, 45, 46, 47, 48, 49, 50, 51, 52] vs (fun j => ([.slice (some ⟨b, off, none⟩) l.length cap, .int .i64 (k : Int), .pointer (some ⟨b, off + k * 6, none⟩), .pointer (some ⟨b, off + k * 6 + 5, none⟩), .slice ea es.length ec, .slice (some ⟨b', off', none⟩) r.length cap', .int .i64 (k : Int), .pointer (some ⟨b', off' + k * 6, none⟩), .pointer (some ⟨b', off' + k * 6 + 5, none⟩), .slice ea' es'.length ec', .bool z3] : List Value).getD j undef) (fun j hj => hφ j hj)]
                  clear hφ vs
                  refine op_list (by rfl) ?_
                  simp only [fill, fillA, List.getD_cons_zero, List.getD_cons_succ, Nat.reduceAdd]
                  go_wp2_with fail
                  refine withK_intro ?_
                  go_wp2_with fail
                  have HRz : Hid (Below wr.heap.size wr wx) := HR
                  have e0 := cell_below HR HE0.out
                  have e1 := cell_below HR HE1.out
                  have e2 := cell_below HR HE2.out
                  have e0' := cell_below HR HE0'.out
                  have e1' := cell_below HR HE1'.out
                  have e2' := cell_below HR HE2'.out
                  clear HR
                  cases b1
                  case false =>
                    have h1 : (o != o') = true := by simp only [bne, G1.out, Bool.not_false]
                    go_quiet (fail)
                    go_wp2
                    go_ret
                    obtain rfl : q = false := by rw [← HQ.out, HN.out (HT.out.trans (by simp)), Bool.and_false]
                    exact ⟨rfl, (hb_step HB (below_drewN HRz.out _)).out⟩
                  case true =>
                    have h1 : (o != o') = false := by simp only [bne, G1.out, Bool.not_true]
                    cases b2
                    case false =>
                      have h2 : (n != n') = true := by simp only [bne, G2.out, Bool.not_false]
                      go_quiet (fail)
                      go_wp2
                      go_ret
                      obtain rfl : q = false := by rw [← HQ.out, HN.out (HT.out.trans (by simp)), Bool.and_false]
                      exact ⟨rfl, (hb_step HB (below_drewN HRz.out _)).out⟩
                    case true =>
                      have h2 : (n != n') = false := by simp only [bne, G2.out, Bool.not_true]
                      cases b3
                      case false =>
                        have h3 := G3.out
                        go_quiet (fail)
                        go_wp2
                        go_ret
                        obtain rfl : q = false := by rw [← HQ.out, HN.out (HT.out.trans (by simp)), Bool.and_false]
                        exact ⟨rfl, (hb_step HB (below_drewN HRz.out _)).out⟩
                      case true =>
                        have h3 := G3.out
                        cases z1
                        case false =>
                          go_quiet (fail)
                          go_wp2
                          go_ret
                          obtain rfl : q = false := by rw [← HQ.out, HN.out (HT.out.trans (by simp)), Bool.and_false]
                          exact ⟨rfl, (hb_step HB (below_drewN HRz.out _)).out⟩
                        case true =>
                          cases z2
                          case false =>
                            go_quiet (fail)
                            go_wp2
                            go_ret
                            obtain rfl : q = false := by rw [← HQ.out, HN.out (HT.out.trans (by simp)), Bool.and_false]
                            exact ⟨rfl, (hb_step HB (below_drewN HRz.out _)).out⟩
                          case true =>
                            cases z3
                            case false =>
                              go_quiet (fail)
                              go_wp2
                              go_ret
                              obtain rfl : q = false := by rw [← HQ.out, HN.out (HT.out.trans (by simp)), Bool.and_false]
                              exact ⟨rfl, (hb_step HB (below_drewN HRz.out _)).out⟩
                            case true =>
                              go_quiet (fail)
                              go_wp2
                              go_roundw
                              case rel => exact ⟨k + 1, by go_num, by omega, hb_step HB (below_drewN HRz.out _), by show _ = _; rw [HX.out, HK.out, HT.out]; rfl⟩
                              case measure => simp [intOf]; omega
                case hr8 => exact HR7.out.drew
              case hr7 => exact HR6.out.drew
            case hr6 => exact (Below.refl _ _).drew
          · obtain rfl : k = l.length := by omega
            go_wp2
            go_ret
            obtain rfl : q = true := by rw [← HQ.out, HK.out, decide_eq_true HL.out]; rfl
            exact ⟨rfl, HB.out⟩
      · have hne : ((l.length : Int) != (r.length : Int)) = true := by simp; omega
        have HL := Lib.hid hlen
        clear hlen
        go_enter Tryd.func35, Tryd.ntmps35
        go_wp2
        go_ret
        obtain rfl : q = false := by rw [← HQ.out, decide_eq_false HL.out]; rfl
        exact ⟨rfl, HB.out⟩

end Go.Proofs.YtplckmpamekloaaDoor
