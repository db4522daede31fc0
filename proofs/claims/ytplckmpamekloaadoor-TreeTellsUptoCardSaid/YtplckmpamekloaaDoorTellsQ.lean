/- The document's Equal. -/
import Derived.Test.YtplckmpamekloaaDoorTellsA
namespace Go.Proofs.YtplckmpamekloaaDoor
open Go.RowKit Go.Sort
set_option linter.unusedVariables false

theorem TSl.row {w : World} {v : Value} {l : List ByteArray} (h : TSl w v l) : ∃ a b off cap, v = .slice a l.length cap ∧ At a l.length b off ∧ l.length ≤ cap ∧ cap ≤ 9223372036854775807 ∧ ∀ i, i < l.length → w.cell? ⟨b, off + i, none⟩ = some (.string (l.getD i ByteArray.empty)) := by
  cases h with
  | mk a b off cap l ha hc hm hcell => exact ⟨a, b, off, cap, rfl, ha, hc, hm, hcell⟩

set_option maxHeartbeats 8000000 in
set_option maxRecDepth 1000000 in
theorem requal_r (w : World) {fv mv fv' mv' : Value} {p p' : PT} (hp : PR w fv mv p) (hp' : PR w fv' mv' p') (q : Bool) (hq : PT.same p p' = q) :
    Calls Tryd.prog 19 #[.agg #[fv, mv], .agg #[fv', mv']] w fun e w' => e = .returned (.bool q) ∧ Below w.heap.size w w' := by
  obtain ⟨fl, ml⟩ := p
  obtain ⟨fl', ml'⟩ := p'
  obtain ⟨hF, hM⟩ := hp
  obtain ⟨hF', hM'⟩ := hp'
  obtain ⟨ma, mc, rfl⟩ := hM.shape0
  obtain ⟨ma', mc', rfl⟩ := hM'.shape0
  simp only at hF hM hF' hM'
  cases hF with
  | mk a b off cap _ f g ha hc hm hcell hts hss =>
  cases hF' with
  | mk a' b' off' cap' _ f' g' ha' hc' hm' hcell' hts' hss' =>
    have HA := Lib.hid ha
    have HC := Lib.hid hcell
    have HS := Lib.hid hss
    have HTS := Lib.hid hts
    have HM := Lib.hid hM
    have HA' := Lib.hid ha'
    have HC' := Lib.hid hcell'
    have HS' := Lib.hid hss'
    have HTS' := Lib.hid hts'
    have HM' := Lib.hid hM'
    have hm1 : cap ≤ 9223372036854775807 := hm
    have hm1' : cap' ≤ 9223372036854775807 := hm'
    obtain ⟨z0, hz0⟩ : ∃ z, ST.sameL ml ml' = z := ⟨_, rfl⟩
    have HZ0 := Lib.hid hz0
    have HQ : Hid (((decide (fl.length = fl'.length) && allB fl.length (fun i => FT.same (fl.getD i default) (fl'.getD i default))) && z0) = q) := by
      show _ = _
      rw [← FT.sameL_eq, ← hz0]; exact hq
    clear ha hcell hts hss hm hq hM ha' hcell' hts' hss' hm' hM' hz0
    have HB := hb_start w
    go_enter Tryd.func19, Tryd.ntmps19
    go_wp2_with fail
    refine (rsame_in w HM.out _ ml' _ HZ0.out _ (((Below.refl _ _).alloc (Nat.le_refl _) _).alloc (by simp) _) HM'.out).mono ?_
    rintro e w1 ⟨rfl, hb⟩
    have HB1 : Hid (Below w.heap.size w w1) := hb_step (by repeat (first | exact HB | refine hb_drew ?_ | refine hb_alloc ?_ _)) hb
    have HY : Hid (w1.cell? ⟨w.heap.size, 0, none⟩ = some (.slice a fl.length cap)) := (hb.cell (p := ⟨w.heap.size, 0, none⟩) (by simp; omega)).trans (by simp)
    have HY' : Hid (w1.cell? ⟨w.heap.size + 1, 0, none⟩ = some (.slice a' fl'.length cap')) := (hb.cell (p := ⟨w.heap.size + 1, 0, none⟩) (by simp)).trans (by simp)
    clear hb HB
    have y0 := HY.out
    have y0' := HY'.out
    cases z0 with
    | false =>
      go_wp2
      go_ret
      obtain rfl : q = false := by rw [← HQ.out, Bool.and_false]
      exact ⟨rfl, HB1.out⟩
    | true =>
    by_cases hlen : fl.length = fl'.length
    rotate_left
    · have hne : ((fl.length : Int) != (fl'.length : Int)) = true := by simp; omega
      have HL := Lib.hid hlen
      clear hlen
      go_wp2
      go_ret
      obtain rfl : q = false := by rw [← HQ.out, decide_eq_false HL.out]; rfl
      exact ⟨rfl, HB1.out⟩
    · have hne : ((fl.length : Int) != (fl'.length : Int)) = false := by rw [hlen]; simp
      have HL := Lib.hid hlen
      clear hlen
      go_wp2_with fail
      go_loopw [6] (fun i wr => ∃ k : Nat, i = .int .i64 k ∧ k ≤ fl.length ∧ Hid (Below w1.heap.size w1 wr) ∧ Hid (allB k (fun i => FT.same (fl.getD i default) (fl'.getD i default)) = true)) (fun i _ => fl.length - (intOf i).toNat)
      case atStart => exact ⟨0, rfl, by omega, hb_start w1, by show _ = _; rfl⟩
      case round =>
        clear y0 y0' hne
        obtain ⟨k, rfl, hk, HB2, HK⟩ := hrel
        have y0 := cell_below HB2 HY.out
        have y0' := cell_below HB2 HY'.out
        by_cases hlt : k < fl.length
        · have hlt' : k < fl'.length := by have := HL.out; omega
          obtain rfl := HA.out (by omega)
          obtain rfl := HA'.out (by omega)
          have WB : Below w.heap.size w wr := HB1.out.trans (HB2.out.mono HB1.out.size)
          have HWB := Lib.hid WB
          obtain ⟨e0, e1, e2⟩ := HC.out k hlt
          obtain ⟨e0', e1', e2'⟩ := HC'.out k hlt'
          have hz : b' < wr.heap.size := Nat.lt_of_lt_of_le (lt_of_cell e0') WB.size
          have hzq : w.heap.size + 1 < wr.heap.size := Nat.lt_of_lt_of_le (lt_of_cell HY'.out) HB2.out.size
          replace e0 := cell_below HWB e0
          replace e1 := cell_below HWB e1
          replace e2 := cell_below HWB e2
          replace e0' := cell_below HWB e0'
          replace e1' := cell_below HWB e1'
          replace e2' := cell_below HWB e2'
          have HX : Hid (allB (k + 1) (fun i => FT.same (fl.getD i default) (fl'.getD i default)) = (allB k (fun i => FT.same (fl.getD i default) (fl'.getD i default)) && FT.same (fl.getD k default) (fl'.getD k default))) := allB_next k (fun i => FT.same (fl.getD i default) (fl'.getD i default))
          have HN : Hid (FT.same (fl.getD k default) (fl'.getD k default) = false → allB fl.length (fun i => FT.same (fl.getD i default) (fl'.getD i default)) = false) := allB_no fl.length k (fun i => FT.same (fl.getD i default) (fl'.getD i default)) hlt
          have HI := Lib.hid (HS.out k hlt)
          have HI' := Lib.hid (HS'.out k hlt')
          have hsh := (HS.out k hlt).shape0
          have hsh' := (HS'.out k hlt').shape0
          have htr := (HTS.out k hlt).row
          have htr' := (HTS'.out k hlt').row
          generalize fl.getD k default = x at e0 HX HN HI hsh htr
          generalize fl'.getD k default = y at e0' HX HN HI' hsh' htr'
          generalize f k = pv at e1 htr
          generalize f' k = pv' at e1' htr'
          generalize g k = bv at e2 HI hsh
          generalize g' k = bv' at e2' HI' hsh'
          obtain ⟨s, ps, bs⟩ := x
          obtain ⟨s', ps', bs'⟩ := y
          simp only at e0 e0' HI HI' hsh hsh' htr htr'
          obtain ⟨pa, pc, rfl⟩ := hsh
          obtain ⟨pa', pc', rfl⟩ := hsh'
          obtain ⟨ta, tb, toff, tc, rfl, hta, htl, htm, htc⟩ := htr
          obtain ⟨ta', tb', toff', tc', rfl, hta', htl', htm', htc'⟩ := htr'
          have HTA := Lib.hid hta
          have HTA' := Lib.hid hta'
          have HTC := Lib.hid htc
          have HTC' := Lib.hid htc'
          obtain ⟨zb, hzb⟩ : ∃ z, ST.sameL bs bs' = z := ⟨_, rfl⟩
          obtain ⟨b1, g1⟩ : ∃ z, (s.toList == s'.toList) = z := ⟨_, rfl⟩
          have HT : Hid (FT.same ⟨s, ps, bs⟩ ⟨s', ps', bs'⟩ = (b1 && ((decide (ps.length = ps'.length) && allB ps.length (fun i => (ps.getD i ByteArray.empty).toList == (ps'.getD i ByteArray.empty).toList)) && zb))) := by show _ = _; rw [← g1, ← hzb]; rfl
          have HZB := Lib.hid hzb
          have G1 := Lib.hid g1
          clear hta hta' htc htc' hzb g1 WB
          go_wp2_with fail
          have hA : Below wr.heap.size wr ((wr.alloc (.cells #[.string s, .slice ta ps.length tc, .slice pa bs.length pc] 35)).alloc (.cells #[.string s', .slice ta' ps'.length tc', .slice pa' bs'.length pc'] 35)) := ((Below.refl _ _).alloc (Nat.le_refl _) _).alloc (by simp) _
          refine (rsame_in w HI.out _ bs' _ HZB.out _ (HWB.out.trans (hA.mono HWB.out.size)) HI'.out).mono ?_
          rintro e w2 ⟨rfl, hb⟩
          have HB3 : Hid (Below w1.heap.size w1 w2) := hb_step HB2 (hA.trans (hb.mono hA.size))
          have HF0 : Hid (w2.cell? ⟨wr.heap.size, 0, none⟩ = some (.string s)) := (hb.cell (p := ⟨wr.heap.size, 0, none⟩) (by simp; omega)).trans (by simp)
          have HF1 : Hid (w2.cell? ⟨wr.heap.size, 1, none⟩ = some (.slice ta ps.length tc)) := (hb.cell (p := ⟨wr.heap.size, 1, none⟩) (by simp; omega)).trans (by simp)
          have HF0' : Hid (w2.cell? ⟨wr.heap.size + 1, 0, none⟩ = some (.string s')) := (hb.cell (p := ⟨wr.heap.size + 1, 0, none⟩) (by simp)).trans (by simp)
          have HF1' : Hid (w2.cell? ⟨wr.heap.size + 1, 1, none⟩ = some (.slice ta' ps'.length tc')) := (hb.cell (p := ⟨wr.heap.size + 1, 1, none⟩) (by simp)).trans (by simp)
          have hBB : Below w.heap.size w w2 := HB1.out.trans (HB3.out.mono HB1.out.size)
          have HBB := Lib.hid hBB
          clear hb hA hBB y0 y0' e0 e1 e2 e0' e1' e2' hz hzq
          have q0 := HF0.out
          have q1 := HF1.out
          have q0' := HF0'.out
          have q1' := HF1'.out
          have h3 := G1.out
          cases b1 with
          | false =>
            go_wp2
            go_ret
            obtain rfl : q = false := by rw [← HQ.out, HN.out (HT.out.trans (by simp))]; simp
            exact ⟨rfl, HBB.out⟩
          | true =>
          cases zb with
          | false =>
            go_wp2
            go_ret
            obtain rfl : q = false := by rw [← HQ.out, HN.out (HT.out.trans (by simp))]; simp
            exact ⟨rfl, HBB.out⟩
          | true =>
          by_cases hlen2 : ps.length = ps'.length
          rotate_left
          · have hne : ((ps.length : Int) != (ps'.length : Int)) = true := by simp; omega
            have HL2 := Lib.hid hlen2
            clear hlen2
            go_wp2
            go_ret
            obtain rfl : q = false := by rw [← HQ.out, HN.out (HT.out.trans (by rw [decide_eq_false HL2.out]; simp))]; simp
            exact ⟨rfl, HBB.out⟩
          · have hne : ((ps.length : Int) != (ps'.length : Int)) = false := by rw [hlen2]; simp
            have HL2 := Lib.hid hlen2
            clear hlen2
            go_wp2_with fail
            go_loopw [10] (fun i wq => ∃ j : Nat, i = .int .i64 j ∧ j ≤ ps.length ∧ Hid (Below w2.heap.size w2 wq) ∧ Hid (allB j (fun i => (ps.getD i ByteArray.empty).toList == (ps'.getD i ByteArray.empty).toList) = true)) (fun i _ => ps.length - (intOf i).toNat)
            case atStart => exact ⟨0, rfl, by omega, hb_start w2, by show _ = _; rfl⟩
            case round =>
              clear q0 q1 q0' q1' hne h3
              obtain ⟨j, rfl, hj, HB4, HJ⟩ := hrel
              have q1 := cell_below HB4 HF1.out
              have q1' := cell_below HB4 HF1'.out
              by_cases hjt : j < ps.length
              · have hjt' : j < ps'.length := by have := HL2.out; omega
                obtain rfl := HTA.out (by omega)
                obtain rfl := HTA'.out (by omega)
                have c0 := cell_below HB4 (cell_below HBB (HTC.out j hjt))
                have c0' := cell_below HB4 (cell_below HBB (HTC'.out j hjt'))
                have HX2 : Hid (allB (j + 1) (fun i => (ps.getD i ByteArray.empty).toList == (ps'.getD i ByteArray.empty).toList) = (allB j (fun i => (ps.getD i ByteArray.empty).toList == (ps'.getD i ByteArray.empty).toList) && ((ps.getD j ByteArray.empty).toList == (ps'.getD j ByteArray.empty).toList))) := allB_next j (fun i => (ps.getD i ByteArray.empty).toList == (ps'.getD i ByteArray.empty).toList)
                have HN2 : Hid (((ps.getD j ByteArray.empty).toList == (ps'.getD j ByteArray.empty).toList) = false → allB ps.length (fun i => (ps.getD i ByteArray.empty).toList == (ps'.getD i ByteArray.empty).toList) = false) := allB_no ps.length j (fun i => (ps.getD i ByteArray.empty).toList == (ps'.getD i ByteArray.empty).toList) hjt
                generalize ps.getD j ByteArray.empty = u at c0 HX2 HN2
                generalize ps'.getD j ByteArray.empty = u' at c0' HX2 HN2
                obtain ⟨t, ht⟩ : ∃ t, (u.toList == u'.toList) = t := ⟨_, rfl⟩
                rw [ht] at HX2 HN2
                cases t with
                | false =>
                  go_wp2_with fail
                  go_quiet (fail)
                  go_wp2
                  go_ret
                  obtain rfl : q = false := by rw [← HQ.out, HN.out (HT.out.trans (by rw [HN2.out (by first | rfl | trivial)]; simp))]; simp
                  exact ⟨rfl, HBB.out.trans ((below_drewN HB4.out _).mono HBB.out.size)⟩
                | true =>
                  go_wp2_with fail
                  go_quiet (fail)
                  go_wp2
                  go_roundw
                  case rel => exact ⟨j + 1, by go_num, by omega, below_drewN HB4.out _, by show _ = _; rw [HX2.out, HJ.out]; rfl⟩
                  case measure => simp [intOf]; omega
              · obtain rfl : j = ps.length := by omega
                go_wp2
                go_roundw
                case rel => exact ⟨k + 1, by go_num, by omega, hb_step HB3 HB4.out, by show _ = _; rw [HX.out, HK.out, HT.out, HJ.out, decide_eq_true HL2.out]; rfl⟩
                case measure => simp [intOf]; omega
        · obtain rfl : k = fl.length := by omega
          go_wp2
          go_ret
          obtain rfl : q = true := by rw [← HQ.out, HK.out, decide_eq_true HL.out]; rfl
          exact ⟨rfl, HB1.out.trans (HB2.out.mono HB1.out.size)⟩
end Go.Proofs.YtplckmpamekloaaDoor
