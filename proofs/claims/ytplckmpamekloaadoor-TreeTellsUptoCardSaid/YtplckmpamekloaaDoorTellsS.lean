/- The document's Deeper, more. -/
import Derived.Test.YtplckmpamekloaaDoorTellsE
import Derived.Test.YtplckmpamekloaaDoorTreeFlow
import Derived.Test.YtplckmpamekloaaDoorTellsKit
namespace Go.Proofs.YtplckmpamekloaaDoor
open Go.RowKit Go.Sort
set_option linter.unusedVariables false

set_option maxHeartbeats 4000000 in
set_option maxRecDepth 1000000 in
theorem rdeeper_in (w0 : World) {v : Value} {l : List ST} (h : SSl w0 v l) : ∀ (q : Int) (hq : ST.rdeepL l 0 = q) (w : World) (hw : Below w0.heap.size w0 w),
    Calls Tryd.prog 28 #[v] w fun e w' => e = .returned (.int .i64 q) ∧ Below w.heap.size w w' := by
  induction h with
  | mk a b off cap l f g hh ha hc hm hcell hsub hsub1 hsub2 ih1 ih2 =>
    intro q hq w hw
    have HA := Lib.hid ha
    have HC := Lib.hid hcell
    have HIH1 := Lib.hid ih1
    have HIH2 := Lib.hid ih2
    have HSub := Lib.hid hsub
    have HSub1 := Lib.hid hsub1
    have HSub2 := Lib.hid hsub2
    have HW := Lib.hid hw
    have hm1 : cap ≤ 9223372036854775807 := hm
    have HQ := Lib.hid hq
    clear ha hcell ih1 ih2 hsub hsub1 hsub2 hw hm hq
    have HB := hb_start w
    go_enter Tryd.func28, Tryd.ntmps28
    go_wp2
    go_loopw [3, 4] (fun x i wr => ∃ (k : Nat) (m : Int), i = .int .i64 k ∧ x = .int .i64 m ∧ k ≤ l.length ∧ Hid (Below w.heap.size w wr) ∧ Hid (ST.rdeepL (l.take k) 0 = m)) (fun _ i _ => l.length - (intOf i).toNat)
    case atStart => exact ⟨0, 0, rfl, rfl, by omega, HB, by show _ = _; rfl⟩
    case round =>
      clear HB
      obtain ⟨k, m, rfl, rfl, hk, HB, HK⟩ := hrel
      by_cases hlt : k < l.length
      · obtain rfl := HA.out (by omega)
        obtain ⟨_, _, _, e3, e4, e5⟩ := HC.out k hlt
        have WB : Below w0.heap.size w0 wr := HW.out.trans (HB.out.mono HW.out.size)
        have hz : b < w0.heap.size := lt_of_cell e3
        replace e3 := (WB.cell (p := ⟨b, off + k * 6 + 3, none⟩) hz).trans e3
        replace e4 := (WB.cell (p := ⟨b, off + k * 6 + 4, none⟩) hz).trans e4
        replace e5 := (WB.cell (p := ⟨b, off + k * 6 + 5, none⟩) hz).trans e5
        have HI0 := Lib.hid (HSub.out k hlt)
        have HI1 := Lib.hid (HIH1.out k hlt)
        have HI2 := Lib.hid (HIH2.out k hlt)
        have HT := Lib.hid (ST.rdeepL_take l 0 k hlt)
        have hsh := (HSub.out k hlt).shape0
        have hsh1 := (HSub1.out k hlt).shape0
        have hsh2 := (HSub2.out k hlt).shape0
        generalize f k = pv at e3 HI0 hsh
        generalize g k = pv1 at e4 HI1 hsh1
        generalize hh k = pv2 at e5 HI2 hsh2
        generalize (l.getD k default).parts = ps at HT HI0 hsh
        generalize (l.getD k default).body = bs at HT HI1 hsh1
        generalize (l.getD k default).els = es at HT HI2 hsh2
        obtain ⟨pa, pc, rfl⟩ := hsh
        obtain ⟨ba, bc, rfl⟩ := hsh1
        obtain ⟨ea, ec, rfl⟩ := hsh2
        obtain ⟨z1, hz1⟩ : ∃ z, ET.rdeepL ps 0 = z := ⟨_, rfl⟩
        obtain ⟨z2, hz2⟩ : ∃ z, ST.rdeepL bs 0 = z := ⟨_, rfl⟩
        obtain ⟨z3, hz3⟩ : ∃ z, ST.rdeepL es 0 = z := ⟨_, rfl⟩
        obtain ⟨y, hy⟩ : ∃ y, max z1 (max z2 z3) = y := ⟨_, rfl⟩
        obtain ⟨nx, hnx⟩ : ∃ y', max m (wrap64 (1 + y)) = y' := ⟨_, rfl⟩
        have HT2 : Hid (ST.rdeepL (l.take (k + 1)) 0 = nx) := by show _ = _; rw [HT.out, HK.out, hz1, hz2, hz3, hy, hnx]
        have HY := Lib.hid hy
        have HNX := Lib.hid hnx
        clear hy hnx
        have HZ1 := Lib.hid hz1
        have HZ2 := Lib.hid hz2
        have HZ3 := Lib.hid hz3
        have HWB := Lib.hid WB
        have HE3 := Lib.hid e3
        have HE4 := Lib.hid e4
        have HE5 := Lib.hid e5
        clear hz1 hz2 hz3 HT WB hz e3 e4 e5
        go_wp2_with fail
        refine region_flow rfl 22 rfl (by decide +kernel) [11, 12, 13, 14, 15, 16, 17, 18, 19, 20, 21, 22, 23, 24, 25, 26, 27, 28, 29, 30, 31, 32] (by decide +kernel) rfl (by decide) (by simp) (fun w w' => Below w.heap.size w w') (fun w => Below wr.heap.size wr w)
          (fun j v _ => v = ([.int .i64 m, .slice (some ⟨b, off, none⟩) l.length cap, .int .i64 (k : Int), .pointer (some ⟨b, off + k * 6, none⟩), .pointer (some ⟨b, off + k * 6 + 3, none⟩), .slice pa ps.length pc, .int .i64 z1, .slice (some ⟨b, off, none⟩) l.length cap, .int .i64 (k : Int), .pointer (some ⟨b, off + k * 6, none⟩), .pointer (some ⟨b, off + k * 6 + 4, none⟩), .slice ba bs.length bc, .int .i64 z2, .slice (some ⟨b, off, none⟩) l.length cap, .int .i64 (k : Int), .pointer (some ⟨b, off + k * 6, none⟩), .pointer (some ⟨b, off + k * 6 + 5, none⟩), .slice ea es.length ec, .int .i64 z3, .int .i64 y, .int .i64 (wrap64 (1 + y)), .int .i64 nx] : List Value).getD j undef) (fun _ _ _ _ _ h => h) ?hr5 ?hs5 ?hl5
        case hs5 =>
          intro ix hix a wx hR hout hdep
          have hix' : ix = 0 ∨ ix = 1 ∨ ix = 2 ∨ ix = 3 ∨ ix = 4 ∨ ix = 5 ∨ ix = 6 ∨ ix = 7 ∨ ix = 8 ∨ ix = 9 ∨ ix = 10 ∨ ix = 11 ∨ ix = 12 ∨ ix = 13 ∨ ix = 14 ∨ ix = 15 ∨ ix = 16 ∨ ix = 17 ∨ ix = 18 ∨ ix = 19 ∨ ix = 20 ∨ ix = 21 := by omega
          rcases hix' with rfl | rfl | rfl | rfl | rfl | rfl | rfl | rfl | rfl | rfl | rfl | rfl | rfl | rfl | rfl | rfl | rfl | rfl | rfl | rfl | rfl | rfl
          · have HR := Lib.hid hR
            clear hR
            have e3 := hout 3 (by decide)
            clear hout hdep
            refine op_list (by rfl) ?_
            go_wp2
            exact withK_intro ⟨_, rfl, Below.refl _ _, HR.out, rfl⟩
          · have HR := Lib.hid hR
            clear hR
            have e0 := hout 0 (by decide)
            clear hout hdep
            refine op_list (by rfl) ?_
            go_wp2
            exact withK_intro ⟨_, rfl, Below.refl _ _, HR.out, rfl⟩
          · have HR := Lib.hid hR
            clear hR
            have e4 := hout 4 (by decide)
            clear hout hdep
            refine op_list (by rfl) ?_
            go_wp2
            exact withK_intro ⟨_, rfl, Below.refl _ _, HR.out, rfl⟩
          · have HR := Lib.hid hR
            clear hR
            have e12 : a.tmps[12]? = some (.slice (some ⟨b, off, none⟩) l.length cap) := flow_dep hdep 1 12 (by kernel_rfl) rfl
            have e13 : a.tmps[13]? = some (.int .i64 (k : Int)) := flow_dep hdep 2 13 (by kernel_rfl) rfl
            clear hout hdep
            refine op_list (by rfl) ?_
            go_wp2
            exact withK_intro ⟨_, rfl, Below.refl _ _, HR.out, rfl⟩
          · have HR := Lib.hid hR
            clear hR
            have e14 : a.tmps[14]? = some (.pointer (some ⟨b, off + k * 6, none⟩)) := flow_dep hdep 3 14 (by kernel_rfl) rfl
            clear hout hdep
            refine op_list (by rfl) ?_
            go_wp2
            exact withK_intro ⟨_, rfl, Below.refl _ _, HR.out, rfl⟩
          · have HR := Lib.hid hR
            clear hR
            have e15 : a.tmps[15]? = some (.pointer (some ⟨b, off + k * 6 + 3, none⟩)) := flow_dep hdep 4 15 (by kernel_rfl) rfl
            have z := cell_below HR HE3.out
            clear hout hdep
            refine op_list (by rfl) ?_
            go_wp2
            exact withK_intro ⟨_, rfl, Below.refl _ _, HR.out, rfl⟩
          · have HR := Lib.hid hR
            clear hR
            have e16 : a.tmps[16]? = some (.slice pa ps.length pc) := flow_dep hdep 5 16 (by kernel_rfl) rfl
            clear hout hdep
            refine op_list (by rfl) ?_
            go_wp2_with (go_at_call 49; refine (rdeep_in w0 HI0.out _ HZ1.out _ (HWB.out.trans (HR.out.mono HWB.out.size))).mono ?_; rintro e w' ⟨rfl, hb⟩; have HBc := Lib.hid hb; clear hb)
            exact withK_intro ⟨_, rfl, HBc.out, HR.out.trans (HBc.out.mono HR.out.size), rfl⟩
          · have HR := Lib.hid hR
            clear hR
            have e0 := hout 0 (by decide)
            clear hout hdep
            refine op_list (by rfl) ?_
            go_wp2
            exact withK_intro ⟨_, rfl, Below.refl _ _, HR.out, rfl⟩
          · have HR := Lib.hid hR
            clear hR
            have e4 := hout 4 (by decide)
            clear hout hdep
            refine op_list (by rfl) ?_
            go_wp2
            exact withK_intro ⟨_, rfl, Below.refl _ _, HR.out, rfl⟩
          · have HR := Lib.hid hR
            clear hR
            have e18 : a.tmps[18]? = some (.slice (some ⟨b, off, none⟩) l.length cap) := flow_dep hdep 7 18 (by kernel_rfl) rfl
            have e19 : a.tmps[19]? = some (.int .i64 (k : Int)) := flow_dep hdep 8 19 (by kernel_rfl) rfl
            clear hout hdep
            refine op_list (by rfl) ?_
            go_wp2
            exact withK_intro ⟨_, rfl, Below.refl _ _, HR.out, rfl⟩
          · have HR := Lib.hid hR
            clear hR
            have e20 : a.tmps[20]? = some (.pointer (some ⟨b, off + k * 6, none⟩)) := flow_dep hdep 9 20 (by kernel_rfl) rfl
            clear hout hdep
            refine op_list (by rfl) ?_
            go_wp2
            exact withK_intro ⟨_, rfl, Below.refl _ _, HR.out, rfl⟩
          · have HR := Lib.hid hR
            clear hR
            have e21 : a.tmps[21]? = some (.pointer (some ⟨b, off + k * 6 + 4, none⟩)) := flow_dep hdep 10 21 (by kernel_rfl) rfl
            have z := cell_below HR HE4.out
            clear hout hdep
            refine op_list (by rfl) ?_
            go_wp2
            exact withK_intro ⟨_, rfl, Below.refl _ _, HR.out, rfl⟩
          · have HR := Lib.hid hR
            clear hR
            have e22 : a.tmps[22]? = some (.slice ba bs.length bc) := flow_dep hdep 11 22 (by kernel_rfl) rfl
            clear hout hdep
            refine op_list (by rfl) ?_
            go_wp2_with (go_at_call 28; refine (HI1.out _ HZ2.out _ (HWB.out.trans (HR.out.mono HWB.out.size))).mono ?_; rintro e w' ⟨rfl, hb⟩; have HBc := Lib.hid hb; clear hb)
            exact withK_intro ⟨_, rfl, HBc.out, HR.out.trans (HBc.out.mono HR.out.size), rfl⟩
          · have HR := Lib.hid hR
            clear hR
            have e0 := hout 0 (by decide)
            clear hout hdep
            refine op_list (by rfl) ?_
            go_wp2
            exact withK_intro ⟨_, rfl, Below.refl _ _, HR.out, rfl⟩
          · have HR := Lib.hid hR
            clear hR
            have e4 := hout 4 (by decide)
            clear hout hdep
            refine op_list (by rfl) ?_
            go_wp2
            exact withK_intro ⟨_, rfl, Below.refl _ _, HR.out, rfl⟩
          · have HR := Lib.hid hR
            clear hR
            have e24 : a.tmps[24]? = some (.slice (some ⟨b, off, none⟩) l.length cap) := flow_dep hdep 13 24 (by kernel_rfl) rfl
            have e25 : a.tmps[25]? = some (.int .i64 (k : Int)) := flow_dep hdep 14 25 (by kernel_rfl) rfl
            clear hout hdep
            refine op_list (by rfl) ?_
            go_wp2
            exact withK_intro ⟨_, rfl, Below.refl _ _, HR.out, rfl⟩
          · have HR := Lib.hid hR
            clear hR
            have e26 : a.tmps[26]? = some (.pointer (some ⟨b, off + k * 6, none⟩)) := flow_dep hdep 15 26 (by kernel_rfl) rfl
            clear hout hdep
            refine op_list (by rfl) ?_
            go_wp2
            exact withK_intro ⟨_, rfl, Below.refl _ _, HR.out, rfl⟩
          · have HR := Lib.hid hR
            clear hR
            have e27 : a.tmps[27]? = some (.pointer (some ⟨b, off + k * 6 + 5, none⟩)) := flow_dep hdep 16 27 (by kernel_rfl) rfl
            have z := cell_below HR HE5.out
            clear hout hdep
            refine op_list (by rfl) ?_
            go_wp2
            exact withK_intro ⟨_, rfl, Below.refl _ _, HR.out, rfl⟩
          · have HR := Lib.hid hR
            clear hR
            have e28 : a.tmps[28]? = some (.slice ea es.length ec) := flow_dep hdep 17 28 (by kernel_rfl) rfl
            clear hout hdep
            refine op_list (by rfl) ?_
            go_wp2_with (go_at_call 28; refine (HI2.out _ HZ3.out _ (HWB.out.trans (HR.out.mono HWB.out.size))).mono ?_; rintro e w' ⟨rfl, hb⟩; have HBc := Lib.hid hb; clear hb)
            exact withK_intro ⟨_, rfl, HBc.out, HR.out.trans (HBc.out.mono HR.out.size), rfl⟩
          · have HR := Lib.hid hR
            clear hR
            have e17 : a.tmps[17]? = some (.int .i64 z1) := flow_dep hdep 6 17 (by kernel_rfl) rfl
            have e23 : a.tmps[23]? = some (.int .i64 z2) := flow_dep hdep 12 23 (by kernel_rfl) rfl
            have e29 : a.tmps[29]? = some (.int .i64 z3) := flow_dep hdep 18 29 (by kernel_rfl) rfl
            clear hout hdep
            refine op_list (by rfl) ?_
            go_wp2
            all_goals exact withK_intro ⟨_, rfl, Below.refl _ _, HR.out, by show Value.int _ _ = Value.int _ _; have := HY.out; congr 1; omega⟩
          · have HR := Lib.hid hR
            clear hR
            have e30 : a.tmps[30]? = some (.int .i64 y) := flow_dep hdep 19 30 (by kernel_rfl) rfl
            clear hout hdep
            refine op_list (by rfl) ?_
            go_wp2
            exact withK_intro ⟨_, rfl, Below.refl _ _, HR.out, rfl⟩
          · have HR := Lib.hid hR
            clear hR
            have e11 : a.tmps[11]? = some (.int .i64 m) := flow_dep hdep 0 11 (by kernel_rfl) rfl
            have e31 : a.tmps[31]? = some (.int .i64 (wrap64 (1 + y))) := flow_dep hdep 20 31 (by kernel_rfl) rfl
            clear hout hdep
            refine op_list (by rfl) ?_
            go_wp2
            all_goals exact withK_intro ⟨_, rfl, Below.refl _ _, HR.out, by show Value.int _ _ = Value.int _ _; have := HNX.out; congr 1; omega⟩
        case hl5 =>
          intro vs wx hR hφ
          have HR := Lib.hid hR
          clear hR
          rw [fill_congr _ [11, 12, 13, 14, 15, 16, 17, 18, 19, 20, 21, 22, 23, 24, 25, 26, 27, 28, 29, 30, 31, 32] vs (fun j => ([.int .i64 m, .slice (some ⟨b, off, none⟩) l.length cap, .int .i64 (k : Int), .pointer (some ⟨b, off + k * 6, none⟩), .pointer (some ⟨b, off + k * 6 + 3, none⟩), .slice pa ps.length pc, .int .i64 z1, .slice (some ⟨b, off, none⟩) l.length cap, .int .i64 (k : Int), .pointer (some ⟨b, off + k * 6, none⟩), .pointer (some ⟨b, off + k * 6 + 4, none⟩), .slice ba bs.length bc, .int .i64 z2, .slice (some ⟨b, off, none⟩) l.length cap, .int .i64 (k : Int), .pointer (some ⟨b, off + k * 6, none⟩), .pointer (some ⟨b, off + k * 6 + 5, none⟩), .slice ea es.length ec, .int .i64 z3, .int .i64 y, .int .i64 (wrap64 (1 + y)), .int .i64 nx] : List Value).getD j undef) (fun j hj => hφ j hj)]
          clear hφ vs
          refine op_list (by rfl) ?_
          simp only [fill, fillA, List.getD_cons_zero, List.getD_cons_succ, Nat.reduceAdd]
          go_wp2_with fail
          refine withK_intro ?_
          go_wp2
          go_roundw
          case rel => exact ⟨k + 1, nx, by go_num, rfl, by omega, hb_step HB HR.out, HT2⟩
          case measure => simp [intOf]; omega
        case hr5 => exact (Below.refl _ _).drew
      · obtain rfl : k = l.length := by omega
        obtain rfl : m = q := by rw [← HK.out, ← HQ.out, List.take_length]
        go_wp2
        go_ret
        exact ⟨rfl, HB.out⟩

set_option maxHeartbeats 4000000 in
set_option maxRecDepth 1000000 in
theorem rmore_in (w0 : World) {v : Value} {l : List ST} (h : SSl w0 v l) : ∀ (q : Int) (hq : ST.rmanyL l l.length = q) (w : World) (hw : Below w0.heap.size w0 w),
    Calls Tryd.prog 29 #[v] w fun e w' => e = .returned (.int .i64 q) ∧ Below w.heap.size w w' := by
  induction h with
  | mk a b off cap l f g hh ha hc hm hcell hsub hsub1 hsub2 ih1 ih2 =>
    intro q hq w hw
    have HA := Lib.hid ha
    have HC := Lib.hid hcell
    have HIH1 := Lib.hid ih1
    have HIH2 := Lib.hid ih2
    have HSub := Lib.hid hsub
    have HSub1 := Lib.hid hsub1
    have HSub2 := Lib.hid hsub2
    have HW := Lib.hid hw
    have hm1 : cap ≤ 9223372036854775807 := hm
    have HQ := Lib.hid hq
    clear ha hcell ih1 ih2 hsub hsub1 hsub2 hw hm hq
    have HB := hb_start w
    go_enter Tryd.func29, Tryd.ntmps29
    go_wp2
    go_loopw [3, 4] (fun x i wr => ∃ (k : Nat) (m : Int), i = .int .i64 k ∧ x = .int .i64 m ∧ k ≤ l.length ∧ Hid (Below w.heap.size w wr) ∧ Hid (ST.rmanyL (l.take k) l.length = m)) (fun _ i _ => l.length - (intOf i).toNat)
    case atStart => exact ⟨0, l.length, rfl, rfl, by omega, HB, by show _ = _; rfl⟩
    case round =>
      clear HB
      obtain ⟨k, m, rfl, rfl, hk, HB, HK⟩ := hrel
      by_cases hlt : k < l.length
      · obtain rfl := HA.out (by omega)
        obtain ⟨_, _, _, e3, e4, e5⟩ := HC.out k hlt
        have WB : Below w0.heap.size w0 wr := HW.out.trans (HB.out.mono HW.out.size)
        have hz : b < w0.heap.size := lt_of_cell e3
        replace e3 := (WB.cell (p := ⟨b, off + k * 6 + 3, none⟩) hz).trans e3
        replace e4 := (WB.cell (p := ⟨b, off + k * 6 + 4, none⟩) hz).trans e4
        replace e5 := (WB.cell (p := ⟨b, off + k * 6 + 5, none⟩) hz).trans e5
        have HI0 := Lib.hid (HSub.out k hlt)
        have HI1 := Lib.hid (HIH1.out k hlt)
        have HI2 := Lib.hid (HIH2.out k hlt)
        have HT := Lib.hid (ST.rmanyL_take l l.length k hlt)
        have hsh := (HSub.out k hlt).shape0
        have hsh1 := (HSub1.out k hlt).shape0
        have hsh2 := (HSub2.out k hlt).shape0
        generalize f k = pv at e3 HI0 hsh
        generalize g k = pv1 at e4 HI1 hsh1
        generalize hh k = pv2 at e5 HI2 hsh2
        generalize (l.getD k default).parts = ps at HT HI0 hsh
        generalize (l.getD k default).body = bs at HT HI1 hsh1
        generalize (l.getD k default).els = es at HT HI2 hsh2
        obtain ⟨pa, pc, rfl⟩ := hsh
        obtain ⟨ba, bc, rfl⟩ := hsh1
        obtain ⟨ea, ec, rfl⟩ := hsh2
        obtain ⟨z1, hz1⟩ : ∃ z, ET.rmanyL ps ps.length = z := ⟨_, rfl⟩
        obtain ⟨z2, hz2⟩ : ∃ z, ST.rmanyL bs bs.length = z := ⟨_, rfl⟩
        obtain ⟨z3, hz3⟩ : ∃ z, ST.rmanyL es es.length = z := ⟨_, rfl⟩
        have HT2 : Hid (ST.rmanyL (l.take (k + 1)) l.length = wrap64 (wrap64 (wrap64 (m + z1) + z2) + z3)) := by show _ = _; rw [HT.out, HK.out, hz1, hz2, hz3]
        have HZ1 := Lib.hid hz1
        have HZ2 := Lib.hid hz2
        have HZ3 := Lib.hid hz3
        have HWB := Lib.hid WB
        have HE3 := Lib.hid e3
        have HE4 := Lib.hid e4
        have HE5 := Lib.hid e5
        clear hz1 hz2 hz3 HT WB hz e3 e4 e5
        go_wp2_with fail
        refine region_flow rfl 22 rfl (by decide +kernel) [13, 14, 15, 16, 17, 18, 19, 20, 21, 22, 23, 24, 25, 26, 27, 28, 29, 30, 31, 32, 33, 34] (by decide +kernel) rfl (by decide) (by simp) (fun w w' => Below w.heap.size w w') (fun w => Below wr.heap.size wr w)
          (fun j v _ => v = ([.int .i64 m, .slice (some ⟨b, off, none⟩) l.length cap, .int .i64 (k : Int), .pointer (some ⟨b, off + k * 6, none⟩), .pointer (some ⟨b, off + k * 6 + 3, none⟩), .slice pa ps.length pc, .int .i64 z1, .int .i64 (wrap64 (m + z1)), .slice (some ⟨b, off, none⟩) l.length cap, .int .i64 (k : Int), .pointer (some ⟨b, off + k * 6, none⟩), .pointer (some ⟨b, off + k * 6 + 4, none⟩), .slice ba bs.length bc, .int .i64 z2, .int .i64 (wrap64 (wrap64 (m + z1) + z2)), .slice (some ⟨b, off, none⟩) l.length cap, .int .i64 (k : Int), .pointer (some ⟨b, off + k * 6, none⟩), .pointer (some ⟨b, off + k * 6 + 5, none⟩), .slice ea es.length ec, .int .i64 z3, .int .i64 (wrap64 (wrap64 (wrap64 (m + z1) + z2) + z3))] : List Value).getD j undef) (fun _ _ _ _ _ h => h) ?hr5 ?hs5 ?hl5
        case hs5 =>
          intro ix hix a wx hR hout hdep
          have hix' : ix = 0 ∨ ix = 1 ∨ ix = 2 ∨ ix = 3 ∨ ix = 4 ∨ ix = 5 ∨ ix = 6 ∨ ix = 7 ∨ ix = 8 ∨ ix = 9 ∨ ix = 10 ∨ ix = 11 ∨ ix = 12 ∨ ix = 13 ∨ ix = 14 ∨ ix = 15 ∨ ix = 16 ∨ ix = 17 ∨ ix = 18 ∨ ix = 19 ∨ ix = 20 ∨ ix = 21 := by omega
          rcases hix' with rfl | rfl | rfl | rfl | rfl | rfl | rfl | rfl | rfl | rfl | rfl | rfl | rfl | rfl | rfl | rfl | rfl | rfl | rfl | rfl | rfl | rfl
          · have HR := Lib.hid hR
            clear hR
            have e3 := hout 3 (by decide)
            clear hout hdep
            refine op_list (by rfl) ?_
            go_wp2
            exact withK_intro ⟨_, rfl, Below.refl _ _, HR.out, rfl⟩
          · have HR := Lib.hid hR
            clear hR
            have e0 := hout 0 (by decide)
            clear hout hdep
            refine op_list (by rfl) ?_
            go_wp2
            exact withK_intro ⟨_, rfl, Below.refl _ _, HR.out, rfl⟩
          · have HR := Lib.hid hR
            clear hR
            have e4 := hout 4 (by decide)
            clear hout hdep
            refine op_list (by rfl) ?_
            go_wp2
            exact withK_intro ⟨_, rfl, Below.refl _ _, HR.out, rfl⟩
          · have HR := Lib.hid hR
            clear hR
            have e14 : a.tmps[14]? = some (.slice (some ⟨b, off, none⟩) l.length cap) := flow_dep hdep 1 14 (by kernel_rfl) rfl
            have e15 : a.tmps[15]? = some (.int .i64 (k : Int)) := flow_dep hdep 2 15 (by kernel_rfl) rfl
            clear hout hdep
            refine op_list (by rfl) ?_
            go_wp2
            exact withK_intro ⟨_, rfl, Below.refl _ _, HR.out, rfl⟩
          · have HR := Lib.hid hR
            clear hR
            have e16 : a.tmps[16]? = some (.pointer (some ⟨b, off + k * 6, none⟩)) := flow_dep hdep 3 16 (by kernel_rfl) rfl
            clear hout hdep
            refine op_list (by rfl) ?_
            go_wp2
            exact withK_intro ⟨_, rfl, Below.refl _ _, HR.out, rfl⟩
          · have HR := Lib.hid hR
            clear hR
            have e17 : a.tmps[17]? = some (.pointer (some ⟨b, off + k * 6 + 3, none⟩)) := flow_dep hdep 4 17 (by kernel_rfl) rfl
            have z := cell_below HR HE3.out
            clear hout hdep
            refine op_list (by rfl) ?_
            go_wp2
            exact withK_intro ⟨_, rfl, Below.refl _ _, HR.out, rfl⟩
          · have HR := Lib.hid hR
            clear hR
            have e18 : a.tmps[18]? = some (.slice pa ps.length pc) := flow_dep hdep 5 18 (by kernel_rfl) rfl
            clear hout hdep
            refine op_list (by rfl) ?_
            go_wp2_with (go_at_call 50; refine (rmany_in w0 HI0.out _ HZ1.out _ (HWB.out.trans (HR.out.mono HWB.out.size))).mono ?_; rintro e w' ⟨rfl, hb⟩; have HBc := Lib.hid hb; clear hb)
            exact withK_intro ⟨_, rfl, HBc.out, HR.out.trans (HBc.out.mono HR.out.size), rfl⟩
          · have HR := Lib.hid hR
            clear hR
            have e13 : a.tmps[13]? = some (.int .i64 m) := flow_dep hdep 0 13 (by kernel_rfl) rfl
            have e19 : a.tmps[19]? = some (.int .i64 z1) := flow_dep hdep 6 19 (by kernel_rfl) rfl
            clear hout hdep
            refine op_list (by rfl) ?_
            go_wp2
            exact withK_intro ⟨_, rfl, Below.refl _ _, HR.out, rfl⟩
          · have HR := Lib.hid hR
            clear hR
            have e0 := hout 0 (by decide)
            clear hout hdep
            refine op_list (by rfl) ?_
            go_wp2
            exact withK_intro ⟨_, rfl, Below.refl _ _, HR.out, rfl⟩
          · have HR := Lib.hid hR
            clear hR
            have e4 := hout 4 (by decide)
            clear hout hdep
            refine op_list (by rfl) ?_
            go_wp2
            exact withK_intro ⟨_, rfl, Below.refl _ _, HR.out, rfl⟩
          · have HR := Lib.hid hR
            clear hR
            have e21 : a.tmps[21]? = some (.slice (some ⟨b, off, none⟩) l.length cap) := flow_dep hdep 8 21 (by kernel_rfl) rfl
            have e22 : a.tmps[22]? = some (.int .i64 (k : Int)) := flow_dep hdep 9 22 (by kernel_rfl) rfl
            clear hout hdep
            refine op_list (by rfl) ?_
            go_wp2
            exact withK_intro ⟨_, rfl, Below.refl _ _, HR.out, rfl⟩
          · have HR := Lib.hid hR
            clear hR
            have e23 : a.tmps[23]? = some (.pointer (some ⟨b, off + k * 6, none⟩)) := flow_dep hdep 10 23 (by kernel_rfl) rfl
            clear hout hdep
            refine op_list (by rfl) ?_
            go_wp2
            exact withK_intro ⟨_, rfl, Below.refl _ _, HR.out, rfl⟩
          · have HR := Lib.hid hR
            clear hR
            have e24 : a.tmps[24]? = some (.pointer (some ⟨b, off + k * 6 + 4, none⟩)) := flow_dep hdep 11 24 (by kernel_rfl) rfl
            have z := cell_below HR HE4.out
            clear hout hdep
            refine op_list (by rfl) ?_
            go_wp2
            exact withK_intro ⟨_, rfl, Below.refl _ _, HR.out, rfl⟩
          · have HR := Lib.hid hR
            clear hR
            have e25 : a.tmps[25]? = some (.slice ba bs.length bc) := flow_dep hdep 12 25 (by kernel_rfl) rfl
            clear hout hdep
            refine op_list (by rfl) ?_
            go_wp2_with (go_at_call 29; refine (HI1.out _ HZ2.out _ (HWB.out.trans (HR.out.mono HWB.out.size))).mono ?_; rintro e w' ⟨rfl, hb⟩; have HBc := Lib.hid hb; clear hb)
            exact withK_intro ⟨_, rfl, HBc.out, HR.out.trans (HBc.out.mono HR.out.size), rfl⟩
          · have HR := Lib.hid hR
            clear hR
            have e20 : a.tmps[20]? = some (.int .i64 (wrap64 (m + z1))) := flow_dep hdep 7 20 (by kernel_rfl) rfl
            have e26 : a.tmps[26]? = some (.int .i64 z2) := flow_dep hdep 13 26 (by kernel_rfl) rfl
            clear hout hdep
            refine op_list (by rfl) ?_
            go_wp2
            exact withK_intro ⟨_, rfl, Below.refl _ _, HR.out, rfl⟩
          · have HR := Lib.hid hR
            clear hR
            have e0 := hout 0 (by decide)
            clear hout hdep
            refine op_list (by rfl) ?_
            go_wp2
            exact withK_intro ⟨_, rfl, Below.refl _ _, HR.out, rfl⟩
          · have HR := Lib.hid hR
            clear hR
            have e4 := hout 4 (by decide)
            clear hout hdep
            refine op_list (by rfl) ?_
            go_wp2
            exact withK_intro ⟨_, rfl, Below.refl _ _, HR.out, rfl⟩
          · have HR := Lib.hid hR
            clear hR
            have e28 : a.tmps[28]? = some (.slice (some ⟨b, off, none⟩) l.length cap) := flow_dep hdep 15 28 (by kernel_rfl) rfl
            have e29 : a.tmps[29]? = some (.int .i64 (k : Int)) := flow_dep hdep 16 29 (by kernel_rfl) rfl
            clear hout hdep
            refine op_list (by rfl) ?_
            go_wp2
            exact withK_intro ⟨_, rfl, Below.refl _ _, HR.out, rfl⟩
          · have HR := Lib.hid hR
            clear hR
            have e30 : a.tmps[30]? = some (.pointer (some ⟨b, off + k * 6, none⟩)) := flow_dep hdep 17 30 (by kernel_rfl) rfl
            clear hout hdep
            refine op_list (by rfl) ?_
            go_wp2
            exact withK_intro ⟨_, rfl, Below.refl _ _, HR.out, rfl⟩
          · have HR := Lib.hid hR
            clear hR
            have e31 : a.tmps[31]? = some (.pointer (some ⟨b, off + k * 6 + 5, none⟩)) := flow_dep hdep 18 31 (by kernel_rfl) rfl
            have z := cell_below HR HE5.out
            clear hout hdep
            refine op_list (by rfl) ?_
            go_wp2
            exact withK_intro ⟨_, rfl, Below.refl _ _, HR.out, rfl⟩
          · have HR := Lib.hid hR
            clear hR
            have e32 : a.tmps[32]? = some (.slice ea es.length ec) := flow_dep hdep 19 32 (by kernel_rfl) rfl
            clear hout hdep
            refine op_list (by rfl) ?_
            go_wp2_with (go_at_call 29; refine (HI2.out _ HZ3.out _ (HWB.out.trans (HR.out.mono HWB.out.size))).mono ?_; rintro e w' ⟨rfl, hb⟩; have HBc := Lib.hid hb; clear hb)
            exact withK_intro ⟨_, rfl, HBc.out, HR.out.trans (HBc.out.mono HR.out.size), rfl⟩
          · have HR := Lib.hid hR
            clear hR
            have e27 : a.tmps[27]? = some (.int .i64 (wrap64 (wrap64 (m + z1) + z2))) := flow_dep hdep 14 27 (by kernel_rfl) rfl
            have e33 : a.tmps[33]? = some (.int .i64 z3) := flow_dep hdep 20 33 (by kernel_rfl) rfl
            clear hout hdep
            refine op_list (by rfl) ?_
            go_wp2
            exact withK_intro ⟨_, rfl, Below.refl _ _, HR.out, rfl⟩
        case hl5 =>
          intro vs wx hR hφ
          have HR := Lib.hid hR
          clear hR
          rw [fill_congr _ [13, 14, 15, 16, 17, 18, 19, 20, 21, 22, 23, 24, 25, 26, 27, 28, 29, 30, 31, 32, 33, 34] vs (fun j => ([.int .i64 m, .slice (some ⟨b, off, none⟩) l.length cap, .int .i64 (k : Int), .pointer (some ⟨b, off + k * 6, none⟩), .pointer (some ⟨b, off + k * 6 + 3, none⟩), .slice pa ps.length pc, .int .i64 z1, .int .i64 (wrap64 (m + z1)), .slice (some ⟨b, off, none⟩) l.length cap, .int .i64 (k : Int), .pointer (some ⟨b, off + k * 6, none⟩), .pointer (some ⟨b, off + k * 6 + 4, none⟩), .slice ba bs.length bc, .int .i64 z2, .int .i64 (wrap64 (wrap64 (m + z1) + z2)), .slice (some ⟨b, off, none⟩) l.length cap, .int .i64 (k : Int), .pointer (some ⟨b, off + k * 6, none⟩), .pointer (some ⟨b, off + k * 6 + 5, none⟩), .slice ea es.length ec, .int .i64 z3, .int .i64 (wrap64 (wrap64 (wrap64 (m + z1) + z2) + z3))] : List Value).getD j undef) (fun j hj => hφ j hj)]
          clear hφ vs
          refine op_list (by rfl) ?_
          simp only [fill, fillA, List.getD_cons_zero, List.getD_cons_succ, Nat.reduceAdd]
          go_wp2_with fail
          refine withK_intro ?_
          go_wp2
          go_roundw
          case rel => exact ⟨k + 1, _, by go_num, rfl, by omega, hb_step HB HR.out, HT2⟩
          case measure => simp [intOf]; omega
        case hr5 => exact (Below.refl _ _).drew
      · obtain rfl : k = l.length := by omega
        obtain rfl : m = q := by rw [← HK.out, ← HQ.out, List.take_length]
        go_wp2
        go_ret
        exact ⟨rfl, HB.out⟩

end Go.Proofs.YtplckmpamekloaaDoor
