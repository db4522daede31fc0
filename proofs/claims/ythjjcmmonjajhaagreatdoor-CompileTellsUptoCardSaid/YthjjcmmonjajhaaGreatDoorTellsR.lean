/- The document's Right. -/
import Derived.Test.YthjjcmmonjajhaaGreatDoorTellsSt
import Derived.Test.YthjjcmmonjajhaaGreatDoorLexes
namespace Go.Proofs.YthjjcmmonjajhaaGreatDoor
open Go.RowKit Go.Sort
set_option linter.unusedVariables false

theorem all_next {α : Type} (l : List α) (z : α) (f : α → Bool) (k : Nat) (h : k < l.length) : (l.take (k + 1)).all f = ((l.take k).all f && f (l.getD k z)) := by
  rw [take_next l z k h, List.all_append]; simp
theorem all_no {α : Type} (l : List α) (z : α) (f : α → Bool) (k : Nat) (h : k < l.length) (hf : f (l.getD k z) = false) : l.all f = false := by
  have h1 := all_next l z f k h
  rw [hf, Bool.and_false] at h1
  rw [← List.take_append_drop (k + 1) l, List.all_append, h1]; rfl

set_option maxHeartbeats 8000000 in
set_option maxRecDepth 1000000 in
theorem rright_r (w : World) {fv mv : Value} {p : PT} (hp : PR w fv mv p) (hn : p.numP) (q : Int) (hq : p.rright = q) :
    Calls Tryz.prog 19 #[.agg #[fv, mv]] w fun e w' => e = .returned (.int .i64 q) ∧ Below w.heap.size w w' := by
  have HP := Lib.hid hp
  obtain ⟨fl, ml⟩ := p
  obtain ⟨hF, hM⟩ := hp
  obtain ⟨hnf, hnm⟩ := hn
  obtain ⟨ma, mc, rfl⟩ := hM.shape0
  simp only at hF hM hnf hnm
  cases hF with
  | mk a b off cap _ f g ha hc hm hcell hts hss =>
    have HA := Lib.hid ha
    have HC := Lib.hid hcell
    have HS := Lib.hid hss
    have HTS := Lib.hid hts
    have HM := Lib.hid hM
    have HNF := Lib.hid hnf
    have HNM := Lib.hid hnm
    have hm1 : cap ≤ 9223372036854775807 := hm
    obtain ⟨zm, hzm⟩ : ∃ z, ST.okL ml = z := ⟨_, rfl⟩
    obtain ⟨d, hd⟩ : ∃ d, PT.rdepth ⟨fl, ml⟩ = d := ⟨_, rfl⟩
    have HQ : Hid ((if decide (fl.length ≤ 32) && (fl.all FT.okB && zm) then (if 64 < d then (3 : Int) else 0) else 1) = q) := by
      show _ = _
      rw [← hq, ← hzm, ← hd]; rfl
    have HZM := Lib.hid hzm
    have HD := Lib.hid hd
    clear ha hcell hts hss hm hq hM hnf hnm hzm hd
    by_cases hlen : fl.length ≤ 32
    rotate_left
    · obtain rfl : q = 1 := by rw [← HQ.out, decide_eq_false hlen]; rfl
      have hm' : (32 : Int) < fl.length := by omega
      clear hlen
      go_enter Tryz.func19, Tryz.ntmps19
      go_wp2
      go_ret
      exact ⟨rfl, (Below.refl _ _).alloc (Nat.le_refl _) _⟩
    · have hm' : decide ((32 : Int) < fl.length) = false := decide_eq_false (by omega)
      have HQ2 : Hid ((if fl.all FT.okB && zm then (if 64 < d then (3 : Int) else 0) else 1) = q) := by
        show _ = _
        rw [← HQ.out, decide_eq_true hlen, Bool.true_and]
      clear hlen HQ
      go_enter Tryz.func19, Tryz.ntmps19
      go_wp2_with fail
      have hbl : Below w.heap.size w (w.alloc (.cells #[.slice a fl.length cap, .slice ma ml.length mc] 25)) := (Below.refl _ _).alloc (Nat.le_refl _) _
      have y0 : (w.alloc (.cells #[.slice a fl.length cap, .slice ma ml.length mc] 25)).cell? ⟨w.heap.size, 0, none⟩ = some (.slice a fl.length cap) := by simp
      have y1 : (w.alloc (.cells #[.slice a fl.length cap, .slice ma ml.length mc] 25)).cell? ⟨w.heap.size, 1, none⟩ = some (.slice ma ml.length mc) := by simp
      generalize w.alloc (.cells #[.slice a fl.length cap, .slice ma ml.length mc] 25) = w1 at hbl y0 y1 ⊢
      have HB1 := Lib.hid hbl
      have HY0 := Lib.hid y0
      have HY1 := Lib.hid y1
      clear hbl hm' y1
      go_loopw [3] (fun i wr => ∃ k : Nat, i = .int .i64 k ∧ k ≤ fl.length ∧ Hid (Below w1.heap.size w1 wr) ∧ Hid ((fl.take k).all FT.okB = true)) (fun i _ => fl.length - (intOf i).toNat)
      case atStart => exact ⟨0, rfl, by omega, hb_start w1, by show _ = _; rfl⟩
      case round =>
        clear y0
        obtain ⟨k, rfl, hk, HB2, HK⟩ := hrel
        have y0 := cell_below HB2 HY0.out
        by_cases hlt : k < fl.length
        · obtain rfl := HA.out (by omega)
          have WB : Below w.heap.size w wr := HB1.out.trans (HB2.out.mono HB1.out.size)
          have HWB := Lib.hid WB
          obtain ⟨e0, e1, e2⟩ := HC.out k hlt
          have hz : b < wr.heap.size := Nat.lt_of_lt_of_le (lt_of_cell e0) WB.size
          have hzq : w.heap.size < wr.heap.size := Nat.lt_of_lt_of_le (lt_of_cell HY0.out) HB2.out.size
          replace e0 := cell_below HWB e0
          replace e1 := cell_below HWB e1
          replace e2 := cell_below HWB e2
          have HX := Lib.hid (all_next fl default FT.okB k hlt)
          have HN := Lib.hid (all_no fl default FT.okB k hlt)
          have HI := Lib.hid (HS.out k hlt)
          have HNk := Lib.hid (HNF.out k hlt)
          have hsh := (HS.out k hlt).shape0
          have htr := (HTS.out k hlt).row
          generalize fl.getD k default = x at e0 HX HN HI HNk hsh htr
          generalize f k = pv at e1 htr
          generalize g k = bv at e2 HI hsh
          obtain ⟨s, ps, bs⟩ := x
          simp only at e0 HI HNk hsh htr
          obtain ⟨pa, pc, rfl⟩ := hsh
          obtain ⟨ta, tb, toff, tc, rfl, hta, htl, htm, htc⟩ := htr
          have HTA := Lib.hid hta
          have HTC := Lib.hid htc
          obtain ⟨nm, hnm⟩ : ∃ z, nameB s = z := ⟨_, rfl⟩
          obtain ⟨zb, hzb⟩ : ∃ z, ST.okL bs = z := ⟨_, rfl⟩
          have HT : Hid (FT.okB ⟨s, ps, bs⟩ = (nm && (zb && (decide (ps.length ≤ 8) && ps.all nameB)))) := by show _ = _; rw [← hnm, ← hzb]; rfl
          have HNm := Lib.hid hnm
          have HZB := Lib.hid hzb
          clear hta htc hzb hnm WB
          have hbad : Hid (FT.okB ⟨s, ps, bs⟩ = false → q = 1) := fun h => by rw [← HQ2.out, HN.out h]; rfl
          have hcs : nm = false ∨ (nm = true ∧ zb = false) ∨ (nm = true ∧ zb = true ∧ (8 : Int) < ps.length) ∨ (nm = true ∧ zb = true ∧ ps.length ≤ 8) := by
            cases nm <;> cases zb <;> simp
            omega
          rcases hcs with rfl | ⟨rfl, rfl⟩ | ⟨rfl, rfl, h8⟩ | ⟨rfl, rfl, h8⟩
          · obtain rfl : q = 1 := hbad.out (by rw [HT.out]; rfl)
            go_wp2_with (first
            | (go_at_call 39; refine (rname_r s _ HNm.out _).mono ?_; rintro e w' ⟨rfl, hb⟩; have HB3 : Hid (Below w1.heap.size w1 w') := hb_step (hb_alloc HB2 _) hb; have HW3 : Hid (Below w.heap.size w w') := hb_step (hb_alloc HWB _) hb; have q1 := (hb.cell (p := ⟨wr.heap.size, 1, none⟩) (by simp)).trans (show _ = some (Value.slice ta ps.length tc) by simp); have q2 := (hb.cell (p := ⟨wr.heap.size, 2, none⟩) (by simp)).trans (show _ = some (Value.slice pa bs.length pc) by simp); clear hb)
            | (go_at_call 40; refine (rstmts_in w HI.out HNk.out _ HZB.out _ HW3.out).mono ?_; rintro e w2 ⟨rfl, hb⟩; have HB4 := hb_step HB3 hb; have HW4 := hb_step HW3 hb; have q1 := (hb.cell (p := ⟨wr.heap.size, 1, none⟩) (lt_of_cell q1)).trans q1; clear hb))
            go_ret
            exact ⟨rfl, HW4.out⟩
          · obtain rfl : q = 1 := hbad.out (by rw [HT.out]; rfl)
            go_wp2_with (first
            | (go_at_call 39; refine (rname_r s _ HNm.out _).mono ?_; rintro e w' ⟨rfl, hb⟩; have HB3 : Hid (Below w1.heap.size w1 w') := hb_step (hb_alloc HB2 _) hb; have HW3 : Hid (Below w.heap.size w w') := hb_step (hb_alloc HWB _) hb; have q1 := (hb.cell (p := ⟨wr.heap.size, 1, none⟩) (by simp)).trans (show _ = some (Value.slice ta ps.length tc) by simp); have q2 := (hb.cell (p := ⟨wr.heap.size, 2, none⟩) (by simp)).trans (show _ = some (Value.slice pa bs.length pc) by simp); clear hb)
            | (go_at_call 40; refine (rstmts_in w HI.out HNk.out _ HZB.out _ HW3.out).mono ?_; rintro e w2 ⟨rfl, hb⟩; have HB4 := hb_step HB3 hb; have HW4 := hb_step HW3 hb; have q1 := (hb.cell (p := ⟨wr.heap.size, 1, none⟩) (lt_of_cell q1)).trans q1; clear hb))
            go_ret
            exact ⟨rfl, HW4.out⟩
          · obtain rfl : q = 1 := hbad.out (by rw [HT.out, decide_eq_false (by omega)]; rfl)
            go_wp2_with (first
            | (go_at_call 39; refine (rname_r s _ HNm.out _).mono ?_; rintro e w' ⟨rfl, hb⟩; have HB3 : Hid (Below w1.heap.size w1 w') := hb_step (hb_alloc HB2 _) hb; have HW3 : Hid (Below w.heap.size w w') := hb_step (hb_alloc HWB _) hb; have q1 := (hb.cell (p := ⟨wr.heap.size, 1, none⟩) (by simp)).trans (show _ = some (Value.slice ta ps.length tc) by simp); have q2 := (hb.cell (p := ⟨wr.heap.size, 2, none⟩) (by simp)).trans (show _ = some (Value.slice pa bs.length pc) by simp); clear hb)
            | (go_at_call 40; refine (rstmts_in w HI.out HNk.out _ HZB.out _ HW3.out).mono ?_; rintro e w2 ⟨rfl, hb⟩; have HB4 := hb_step HB3 hb; have HW4 := hb_step HW3 hb; have q1 := (hb.cell (p := ⟨wr.heap.size, 1, none⟩) (lt_of_cell q1)).trans q1; clear hb))
            go_ret
            exact ⟨rfl, HW4.out⟩
          · have h8' : decide ((8 : Int) < ps.length) = false := decide_eq_false (by omega)
            have HT2 : Hid (FT.okB ⟨s, ps, bs⟩ = ps.all nameB) := by show _ = _; rw [HT.out, decide_eq_true h8]; rfl
            clear h8 HT
            go_wp2_with (first
            | (go_at_call 39; refine (rname_r s _ HNm.out _).mono ?_; rintro e w' ⟨rfl, hb⟩; have HB3 : Hid (Below w1.heap.size w1 w') := hb_step (hb_alloc HB2 _) hb; have HW3 : Hid (Below w.heap.size w w') := hb_step (hb_alloc HWB _) hb; have q1 := (hb.cell (p := ⟨wr.heap.size, 1, none⟩) (by simp)).trans (show _ = some (Value.slice ta ps.length tc) by simp); have q2 := (hb.cell (p := ⟨wr.heap.size, 2, none⟩) (by simp)).trans (show _ = some (Value.slice pa bs.length pc) by simp); clear hb)
            | (go_at_call 40; refine (rstmts_in w HI.out HNk.out _ HZB.out _ HW3.out).mono ?_; rintro e w2 ⟨rfl, hb⟩; have HB4 := hb_step HB3 hb; have HW4 := hb_step HW3 hb; have q1 := (hb.cell (p := ⟨wr.heap.size, 1, none⟩) (lt_of_cell q1)).trans q1; clear hb))
            have HQ1 := Lib.hid q1
            clear e0 e1 e2 y0 q1 hz hzq h8'
            go_loopw [7] (fun i wq => ∃ j : Nat, i = .int .i64 j ∧ j ≤ ps.length ∧ Hid (Below w2.heap.size w2 wq) ∧ Hid ((ps.take j).all nameB = true)) (fun i _ => ps.length - (intOf i).toNat)
            case atStart => exact ⟨0, rfl, by omega, hb_start w2, by show _ = _; rfl⟩
            case round =>
              obtain ⟨j, rfl, hj, HB5, HJ⟩ := hrel
              have q1 := cell_below HB5 HQ1.out
              by_cases hjt : j < ps.length
              · obtain rfl := HTA.out (by omega)
                have c0 := cell_below HB5 (cell_below HW4 (HTC.out j hjt))
                have HX2 := Lib.hid (all_next ps ByteArray.empty nameB j hjt)
                have HN2 := Lib.hid (all_no ps ByteArray.empty nameB j hjt)
                generalize ps.getD j ByteArray.empty = u at c0 HX2 HN2
                obtain ⟨t, ht⟩ : ∃ t, nameB u = t := ⟨_, rfl⟩
                rw [ht] at HX2 HN2
                have HU := Lib.hid ht
                clear ht
                cases t with
                | false =>
                  go_wp2_with (go_at_call 39; refine (rname_r u _ HU.out _).mono ?_; rintro e w3 ⟨rfl, hb⟩; have HB6 := hb_step HB5 hb; clear hb)
                  go_ret
                  obtain rfl : q = 1 := hbad.out (HT2.out.trans (HN2.out (by first | rfl | trivial)))
                  exact ⟨rfl, HW4.out.trans (HB6.out.mono HW4.out.size)⟩
                | true =>
                  go_wp2_with (go_at_call 39; refine (rname_r u _ HU.out _).mono ?_; rintro e w3 ⟨rfl, hb⟩; have HB6 := hb_step HB5 hb; clear hb)
                  go_roundw
                  case rel => exact ⟨j + 1, by go_num, by omega, HB6, by show _ = _; rw [HX2.out, HJ.out]; rfl⟩
                  case measure => simp [intOf]; omega
              · obtain rfl : j = ps.length := by omega
                go_wp2
                go_roundw
                case rel => exact ⟨k + 1, by go_num, by omega, hb_step HB4 HB5.out, by have hj := HJ.out; rw [List.take_length] at hj; show _ = _; rw [HX.out, HK.out, HT2.out, hj]; rfl⟩
                case measure => simp [intOf]; omega
        · obtain rfl : k = fl.length := by omega
          have HK2 : Hid (fl.all FT.okB = true) := by show _ = _; rw [← HK.out, List.take_length]
          have y1 := cell_below HB2 HY1.out
          have HW2 : Hid (Below w.heap.size w wr) := hb_step HB1 HB2.out
          cases zm with
          | false =>
            obtain rfl : q = 1 := by rw [← HQ2.out, HK2.out]; rfl
            go_wp2_with (go_at_call 40; refine (rstmts_in w HM.out HNM.out _ HZM.out _ HW2.out).mono ?_; rintro e w2 ⟨rfl, hb⟩; have HW4 := hb_step HW2 hb; clear hb)
            go_ret
            exact ⟨rfl, HW4.out⟩
          | true =>
            have HQ3 : Hid ((if 64 < d then (3 : Int) else 0) = q) := by show _ = _; rw [← HQ2.out, HK2.out]; rfl
            have hd : (64 : Int) < d ∨ decide ((64 : Int) < d) = false := by
              by_cases h : (64 : Int) < d
              · exact .inl h
              · exact .inr (decide_eq_false h)
            rcases hd with hd | hd
            · obtain rfl : q = 3 := by rw [← HQ3.out, if_pos hd]
              go_wp2_with (first
                | (go_at_call 40; refine (rstmts_in w HM.out HNM.out _ HZM.out _ HW2.out).mono ?_; rintro e w2 ⟨rfl, hb⟩; have HW4 := hb_step HW2 hb; have y0 := (hb.cell (p := ⟨w.heap.size, 0, none⟩) (lt_of_cell y0)).trans y0; have y1 := (hb.cell (p := ⟨w.heap.size, 1, none⟩) (lt_of_cell y1)).trans y1; clear hb)
                | (go_at_call 41; refine (rdepth_r _ (HP.out.stay HW4.out) _ HD.out).mono ?_; rintro e w3 ⟨rfl, hb⟩; have HW5 := hb_step HW4 hb; clear hb))
              go_ret
              exact ⟨rfl, HW5.out⟩
            · obtain rfl : q = 0 := by rw [← HQ3.out, if_neg (of_decide_eq_false hd)]
              go_wp2_with (first
                | (go_at_call 40; refine (rstmts_in w HM.out HNM.out _ HZM.out _ HW2.out).mono ?_; rintro e w2 ⟨rfl, hb⟩; have HW4 := hb_step HW2 hb; have y0 := (hb.cell (p := ⟨w.heap.size, 0, none⟩) (lt_of_cell y0)).trans y0; have y1 := (hb.cell (p := ⟨w.heap.size, 1, none⟩) (lt_of_cell y1)).trans y1; clear hb)
                | (go_at_call 41; refine (rdepth_r _ (HP.out.stay HW4.out) _ HD.out).mono ?_; rintro e w3 ⟨rfl, hb⟩; have HW5 := hb_step HW4 hb; clear hb))
              go_ret
              exact ⟨rfl, HW5.out⟩
end Go.Proofs.YthjjcmmonjajhaaGreatDoor
