/- The document's stmts (printed by gen_st.py). -/
import Derived.Test.YthjjcmmonjajhaaGreatDoorTellsExs
namespace Go.Proofs.YthjjcmmonjajhaaGreatDoor
open Go.RowKit Go.Sort
set_option linter.unusedVariables false

theorem stmtB_1 (n : Int) (s : ByteArray) (k b e : Nat) (z1 z2 z3 nm : Bool) (hnm : nameB s = nm) (r : Bool) (hr : (stmtB 1 n s k b e && (z1 && (z2 && z3))) = r) : r = true ↔ (k = 1 ∧ n = 0 ∧ nm = true ∧ b = 0 ∧ e = 0 ∧ z1 = true ∧ z2 = true ∧ z3 = true) := by
  have h : stmtB 1 n s k b e = ((manyB (stmtRow 1).2.2.2.1 k && (decide ((stmtRow 1).2.1 ≤ n) && (decide (n ≤ (stmtRow 1).2.2.1) && (if (stmtRow 1).1 then nameB s else s.toList.isEmpty)))) && (((stmtRow 1).2.2.2.2.1 || decide (b = 0)) && ((stmtRow 1).2.2.2.2.2 || decide (e = 0)))) := rfl
  rw [← hr, h, hnm]
  cases nm <;> cases z1 <;> cases z2 <;> cases z3 <;> simp [manyB, stmtRow, stmtRows] <;> omega
theorem stmtB_2 (n : Int) (s : ByteArray) (k b e : Nat) (z1 z2 z3 nm : Bool) (hnm : nameB s = nm) (r : Bool) (hr : (stmtB 2 n s k b e && (z1 && (z2 && z3))) = r) : r = true ↔ (k = 2 ∧ n = 0 ∧ nm = true ∧ b = 0 ∧ e = 0 ∧ z1 = true ∧ z2 = true ∧ z3 = true) := by
  have h : stmtB 2 n s k b e = ((manyB (stmtRow 2).2.2.2.1 k && (decide ((stmtRow 2).2.1 ≤ n) && (decide (n ≤ (stmtRow 2).2.2.1) && (if (stmtRow 2).1 then nameB s else s.toList.isEmpty)))) && (((stmtRow 2).2.2.2.2.1 || decide (b = 0)) && ((stmtRow 2).2.2.2.2.2 || decide (e = 0)))) := rfl
  rw [← hr, h, hnm]
  cases nm <;> cases z1 <;> cases z2 <;> cases z3 <;> simp [manyB, stmtRow, stmtRows] <;> omega
theorem stmtB_3 (n : Int) (s : ByteArray) (k b e : Nat) (z1 z2 z3 nm : Bool) (hnm : nameB s = nm) (r : Bool) (hr : (stmtB 3 n s k b e && (z1 && (z2 && z3))) = r) : r = true ↔ (k = 0 ∧ (1 ≤ n ∧ n ≤ 4096) ∧ nm = true ∧ b = 0 ∧ e = 0 ∧ z1 = true ∧ z2 = true ∧ z3 = true) := by
  have h : stmtB 3 n s k b e = ((manyB (stmtRow 3).2.2.2.1 k && (decide ((stmtRow 3).2.1 ≤ n) && (decide (n ≤ (stmtRow 3).2.2.1) && (if (stmtRow 3).1 then nameB s else s.toList.isEmpty)))) && (((stmtRow 3).2.2.2.2.1 || decide (b = 0)) && ((stmtRow 3).2.2.2.2.2 || decide (e = 0)))) := rfl
  rw [← hr, h, hnm]
  cases nm <;> cases z1 <;> cases z2 <;> cases z3 <;> simp [manyB, stmtRow, stmtRows] <;> omega
theorem stmtB_4 (n : Int) (s : ByteArray) (k b e : Nat) (z1 z2 z3 nm : Bool) (hnm : nameB s = nm) (r : Bool) (hr : (stmtB 4 n s k b e && (z1 && (z2 && z3))) = r) : r = true ↔ (k = 0 ∧ n = 0 ∧ nm = true ∧ b = 0 ∧ e = 0 ∧ z1 = true ∧ z2 = true ∧ z3 = true) := by
  have h : stmtB 4 n s k b e = ((manyB (stmtRow 4).2.2.2.1 k && (decide ((stmtRow 4).2.1 ≤ n) && (decide (n ≤ (stmtRow 4).2.2.1) && (if (stmtRow 4).1 then nameB s else s.toList.isEmpty)))) && (((stmtRow 4).2.2.2.2.1 || decide (b = 0)) && ((stmtRow 4).2.2.2.2.2 || decide (e = 0)))) := rfl
  rw [← hr, h, hnm]
  cases nm <;> cases z1 <;> cases z2 <;> cases z3 <;> simp [manyB, stmtRow, stmtRows] <;> omega
theorem stmtB_5 (n : Int) (s : ByteArray) (k b e : Nat) (z1 z2 z3 nm : Bool) (hnm : nameB s = nm) (r : Bool) (hr : (stmtB 5 n s k b e && (z1 && (z2 && z3))) = r) : r = true ↔ (k = 1 ∧ n = 0 ∧ s.toList = [] ∧ b = 0 ∧ e = 0 ∧ z1 = true ∧ z2 = true ∧ z3 = true) := by
  have h : stmtB 5 n s k b e = ((manyB (stmtRow 5).2.2.2.1 k && (decide ((stmtRow 5).2.1 ≤ n) && (decide (n ≤ (stmtRow 5).2.2.1) && (if (stmtRow 5).1 then nameB s else s.toList.isEmpty)))) && (((stmtRow 5).2.2.2.2.1 || decide (b = 0)) && ((stmtRow 5).2.2.2.2.2 || decide (e = 0)))) := rfl
  rw [← hr, h, hnm]
  by_cases hs : s.toList = [] <;> cases z1 <;> cases z2 <;> cases z3 <;> simp [manyB, stmtRow, stmtRows, hs] <;> omega
theorem stmtB_6 (n : Int) (s : ByteArray) (k b e : Nat) (z1 z2 z3 nm : Bool) (hnm : nameB s = nm) (r : Bool) (hr : (stmtB 6 n s k b e && (z1 && (z2 && z3))) = r) : r = true ↔ (k = 1 ∧ n = 0 ∧ s.toList = [] ∧ b = 0 ∧ e = 0 ∧ z1 = true ∧ z2 = true ∧ z3 = true) := by
  have h : stmtB 6 n s k b e = ((manyB (stmtRow 6).2.2.2.1 k && (decide ((stmtRow 6).2.1 ≤ n) && (decide (n ≤ (stmtRow 6).2.2.1) && (if (stmtRow 6).1 then nameB s else s.toList.isEmpty)))) && (((stmtRow 6).2.2.2.2.1 || decide (b = 0)) && ((stmtRow 6).2.2.2.2.2 || decide (e = 0)))) := rfl
  rw [← hr, h, hnm]
  by_cases hs : s.toList = [] <;> cases z1 <;> cases z2 <;> cases z3 <;> simp [manyB, stmtRow, stmtRows, hs] <;> omega
theorem stmtB_7 (n : Int) (s : ByteArray) (k b e : Nat) (z1 z2 z3 nm : Bool) (hnm : nameB s = nm) (r : Bool) (hr : (stmtB 7 n s k b e && (z1 && (z2 && z3))) = r) : r = true ↔ (k = 1 ∧ n = 0 ∧ s.toList = [] ∧ True ∧ True ∧ z1 = true ∧ z2 = true ∧ z3 = true) := by
  have h : stmtB 7 n s k b e = ((manyB (stmtRow 7).2.2.2.1 k && (decide ((stmtRow 7).2.1 ≤ n) && (decide (n ≤ (stmtRow 7).2.2.1) && (if (stmtRow 7).1 then nameB s else s.toList.isEmpty)))) && (((stmtRow 7).2.2.2.2.1 || decide (b = 0)) && ((stmtRow 7).2.2.2.2.2 || decide (e = 0)))) := rfl
  rw [← hr, h, hnm]
  by_cases hs : s.toList = [] <;> cases z1 <;> cases z2 <;> cases z3 <;> simp [manyB, stmtRow, stmtRows, hs] <;> omega
theorem stmtB_8 (n : Int) (s : ByteArray) (k b e : Nat) (z1 z2 z3 nm : Bool) (hnm : nameB s = nm) (r : Bool) (hr : (stmtB 8 n s k b e && (z1 && (z2 && z3))) = r) : r = true ↔ (k = 1 ∧ n = 0 ∧ s.toList = [] ∧ True ∧ e = 0 ∧ z1 = true ∧ z2 = true ∧ z3 = true) := by
  have h : stmtB 8 n s k b e = ((manyB (stmtRow 8).2.2.2.1 k && (decide ((stmtRow 8).2.1 ≤ n) && (decide (n ≤ (stmtRow 8).2.2.1) && (if (stmtRow 8).1 then nameB s else s.toList.isEmpty)))) && (((stmtRow 8).2.2.2.2.1 || decide (b = 0)) && ((stmtRow 8).2.2.2.2.2 || decide (e = 0)))) := rfl
  rw [← hr, h, hnm]
  by_cases hs : s.toList = [] <;> cases z1 <;> cases z2 <;> cases z3 <;> simp [manyB, stmtRow, stmtRows, hs] <;> omega
theorem stmtB_9 (n : Int) (s : ByteArray) (k b e : Nat) (z1 z2 z3 nm : Bool) (hnm : nameB s = nm) (r : Bool) (hr : (stmtB 9 n s k b e && (z1 && (z2 && z3))) = r) : r = true ↔ (k = 1 ∧ n = 0 ∧ s.toList = [] ∧ b = 0 ∧ e = 0 ∧ z1 = true ∧ z2 = true ∧ z3 = true) := by
  have h : stmtB 9 n s k b e = ((manyB (stmtRow 9).2.2.2.1 k && (decide ((stmtRow 9).2.1 ≤ n) && (decide (n ≤ (stmtRow 9).2.2.1) && (if (stmtRow 9).1 then nameB s else s.toList.isEmpty)))) && (((stmtRow 9).2.2.2.2.1 || decide (b = 0)) && ((stmtRow 9).2.2.2.2.2 || decide (e = 0)))) := rfl
  rw [← hr, h, hnm]
  by_cases hs : s.toList = [] <;> cases z1 <;> cases z2 <;> cases z3 <;> simp [manyB, stmtRow, stmtRows, hs] <;> omega

set_option maxHeartbeats 16000000 in
set_option maxRecDepth 1000000 in
theorem rstmts_in (w0 : World) {v : Value} {l : List ST} (h : SSl w0 v l) : ∀ (hn : ST.numL l = true) (q : Bool) (hq : ST.okL l = q) (w : World) (hw : Below w0.heap.size w0 w),
    Calls Tryz.prog 40 #[v] w fun e w' => e = .returned (.bool q) ∧ Below w.heap.size w w' := by
  induction h with
  | mk a b off cap l f g hh ha hc hm hcell hsub hsub1 hsub2 ih1 ih2 =>
    intro hn q hq w hw
    have HA := Lib.hid ha
    have HC := Lib.hid hcell
    have HIH1 := Lib.hid ih1
    have HIH2 := Lib.hid ih2
    have HSub := Lib.hid hsub
    have HSub1 := Lib.hid hsub1
    have HSub2 := Lib.hid hsub2
    have HNum := Lib.hid ((ST.numL_iff l).1 hn)
    have HW := Lib.hid hw
    have hm1 : cap ≤ 9223372036854775807 := hm
    have HQ := Lib.hid hq
    clear ha hcell ih1 ih2 hsub hsub1 hsub2 hw hm hq hn
    have HB := hb_start w
    go_enter Tryz.func40, Tryz.ntmps40
    go_wp2
    go_loopw [3] (fun i wr => ∃ k : Nat, i = .int .i64 k ∧ k ≤ l.length ∧ Hid (Below w.heap.size w wr) ∧ Hid (ST.okL (l.take k) = true)) (fun i _ => l.length - (intOf i).toNat)
    case atStart => exact ⟨0, rfl, by omega, HB, by show _ = _; rfl⟩
    case round =>
      clear HB
      obtain ⟨k, rfl, hk, HB, HK⟩ := hrel
      by_cases hlt : k < l.length
      · obtain rfl := HA.out (by omega)
        obtain ⟨e0, e1, e2, e3, e4, e5⟩ := HC.out k hlt
        have WB : Below w0.heap.size w0 wr := HW.out.trans (HB.out.mono HW.out.size)
        have hz : b < w0.heap.size := lt_of_cell e0
        replace e0 := (WB.cell (p := ⟨b, off + k * 6, none⟩) hz).trans e0
        replace e1 := (WB.cell (p := ⟨b, off + k * 6 + 1, none⟩) hz).trans e1
        replace e2 := (WB.cell (p := ⟨b, off + k * 6 + 2, none⟩) hz).trans e2
        replace e3 := (WB.cell (p := ⟨b, off + k * 6 + 3, none⟩) hz).trans e3
        replace e4 := (WB.cell (p := ⟨b, off + k * 6 + 4, none⟩) hz).trans e4
        replace e5 := (WB.cell (p := ⟨b, off + k * 6 + 5, none⟩) hz).trans e5
        have HI0 := Lib.hid (HSub.out k hlt)
        have HI1 := Lib.hid (HIH1.out k hlt)
        have HI2 := Lib.hid (HIH2.out k hlt)
        have hT := ST.okL_take l k hlt
        have hM := ST.okL_mem l k hlt
        have hX := ST.okB_parts (l.getD k default)
        have hY := (ST.numB_parts (l.getD k default)).symm.trans (HNum.out k hlt)
        have hsh := (HSub.out k hlt).shape1
        have hsh1 := (HSub1.out k hlt).shape1
        have hsh2 := (HSub2.out k hlt).shape1
        generalize l.getD k default = x at e0 e1 e2 hT hM hX hY HI0 HI1 HI2 hsh hsh1 hsh2
        generalize f k = pv at e3 HI0 hsh
        generalize g k = pv1 at e4 HI1 hsh1
        generalize hh k = pv2 at e5 HI2 hsh2
        obtain ⟨o, n, s, ps, bs, es⟩ := x
        simp only [ST.op, ST.num, ST.name, ST.parts, ST.body, ST.els] at e0 e1 e2 hX hY HI0 HI1 HI2 hsh hsh1 hsh2
        obtain ⟨pa, pc, rfl, hp0, hp1⟩ := hsh
        obtain ⟨ba, bc, rfl, hb0, hb1⟩ := hsh1
        obtain ⟨ea, ec, rfl, he0, he1⟩ := hsh2
        simp only [Bool.and_eq_true] at hY
        have HNP := Lib.hid hY.1
        have HNB := Lib.hid hY.2.1
        have HNE := Lib.hid hY.2.2
        obtain ⟨nm, hnm⟩ : ∃ z, nameB s = z := ⟨_, rfl⟩
        obtain ⟨z1, hz1⟩ : ∃ z, ET.okL ps = z := ⟨_, rfl⟩
        obtain ⟨z2, hz2⟩ : ∃ z, ST.okL bs = z := ⟨_, rfl⟩
        obtain ⟨z3, hz3⟩ : ∃ z, ST.okL es = z := ⟨_, rfl⟩
        obtain ⟨t, ht⟩ : ∃ z, ST.okB (.mk o n s ps bs es) = z := ⟨_, rfl⟩
        rw [ht, hz1, hz2, hz3] at hX
        rw [ht] at hT hM
        have HX := Lib.hid hX.symm
        have HT := Lib.hid hT
        have HM := Lib.hid hM
        have HNm := Lib.hid hnm
        have HZ1 := Lib.hid hz1
        have HZ2 := Lib.hid hz2
        have HZ3 := Lib.hid hz3
        have HWB := Lib.hid WB
        have HS : Hid (nm = true → ¬ s.toList = []) := fun h => toList_ne (by have h' := hnm.trans h; unfold nameB at h'; simp at h'; omega)
        generalize ps.length = pl at hp0 e3 HX HI0 HI1 HI2 ⊢
        generalize bs.length = bl at hb0 e4 HX HI1 ⊢
        generalize es.length = el at he0 e5 HX HI2 ⊢
        clear hY hX hT hM ht hz1 hz2 hz3 hnm WB hz
        have ho : (¬ (1 ≤ o ∧ o < 10)) ∨ o = 1 ∨ o = 2 ∨ o = 3 ∨ o = 4 ∨ o = 5 ∨ o = 6 ∨ o = 7 ∨ o = 8 ∨ o = 9 := by omega
        rcases ho with ho | rfl | rfl | rfl | rfl | rfl | rfl | rfl | rfl | rfl
        · have e1' : stmtB o n s pl bl el = false := by unfold stmtB; rw [decide_eq_false ho]; rfl
          obtain rfl : t = false := by rw [← HX.out, e1']; rfl
          have g1 : (o == 2) = false := by simp; omega
          have g2 : (o == 3) = false := by simp; omega
          have g3 : (o == 4) = false := by simp; omega
          have hc : o < 1 ∨ (decide (o < 1) = false ∧ 1 ≤ o ∧ decide (o ≤ 4) = false ∧ 9 < o) := by
            by_cases h : o < 1
            · exact .inl h
            · exact .inr ⟨by simpa using h, by omega, by simp; omega, by omega⟩
          clear e1' ho
          rcases hc with hc | ⟨hc, hc1, hc2, hc3⟩
          · as_aux_lemma =>
            go_wp2_with (go_at_call 39; refine (rname_r s _ HNm.out _).mono ?_; rintro e w' ⟨rfl, hb⟩; have HB2 : Hid (Below w.heap.size w w') := hb_step (hb_alloc HB _) hb; have q0 := (hb.cell (p := ⟨wr.heap.size, 0, none⟩) (by simp)).trans (show _ = some (Value.int .i64 o) by simp); have q1 := (hb.cell (p := ⟨wr.heap.size, 1, none⟩) (by simp)).trans (show _ = some (Value.string s) by simp); have q3 := (hb.cell (p := ⟨wr.heap.size, 3, none⟩) (by simp)).trans (show _ = some (Value.slice pa pl pc) by simp); clear hb)
            all_goals
              go_ret
              obtain rfl : q = false := by rw [← HQ.out, HM.out (by first | rfl | trivial)]
              exact ⟨rfl, HB2.out⟩
          · as_aux_lemma =>
            go_wp2_with (go_at_call 39; refine (rname_r s _ HNm.out _).mono ?_; rintro e w' ⟨rfl, hb⟩; have HB2 : Hid (Below w.heap.size w w') := hb_step (hb_alloc HB _) hb; have q0 := (hb.cell (p := ⟨wr.heap.size, 0, none⟩) (by simp)).trans (show _ = some (Value.int .i64 o) by simp); have q1 := (hb.cell (p := ⟨wr.heap.size, 1, none⟩) (by simp)).trans (show _ = some (Value.string s) by simp); have q3 := (hb.cell (p := ⟨wr.heap.size, 3, none⟩) (by simp)).trans (show _ = some (Value.slice pa pl pc) by simp); clear hb)
            all_goals
              go_ret
              obtain rfl : q = false := by rw [← HQ.out, HM.out (by first | rfl | trivial)]
              exact ⟨rfl, HB2.out⟩
        · as_aux_lemma =>
          have HR := Lib.hid (stmtB_1 n s pl bl el z1 z2 z3 nm HNm.out t HX.out)
          clear HX
          cases nm
          all_goals
            go_wp2_with (first
              | (go_at_call 39; refine (rname_r s _ HNm.out _).mono ?_; rintro e w' ⟨rfl, hb⟩; have HB2 : Hid (Below w.heap.size w w') := hb_step (hb_alloc HB _) hb; have HW2 : Hid (Below w0.heap.size w0 w') := hb_step (hb_alloc HWB _) hb; have q0 := (hb.cell (p := ⟨wr.heap.size, 0, none⟩) (by simp)).trans (show _ = some (Value.int .i64 1) by simp); have q1 := (hb.cell (p := ⟨wr.heap.size, 1, none⟩) (by simp)).trans (show _ = some (Value.string s) by simp); have q2 := (hb.cell (p := ⟨wr.heap.size, 2, none⟩) (by simp)).trans (show _ = some (Value.int .i64 n) by simp); have q3 := (hb.cell (p := ⟨wr.heap.size, 3, none⟩) (by simp)).trans (show _ = some (Value.slice pa pl pc) by simp); have q4 := (hb.cell (p := ⟨wr.heap.size, 4, none⟩) (by simp)).trans (show _ = some (Value.slice ba bl bc) by simp); have q5 := (hb.cell (p := ⟨wr.heap.size, 5, none⟩) (by simp)).trans (show _ = some (Value.slice ea el ec) by simp); clear hb)
              | (go_at_call 69; refine (rexprs_in w0 HI0.out HNP.out _ HZ1.out _ HW2.out).mono ?_; rintro e w3 ⟨rfl, hb⟩; have HB3 := hb_step HB2 hb; have HW3 := hb_step HW2 hb; have q4 := (hb.cell (p := ⟨wr.heap.size, 4, none⟩) (lt_of_cell q4)).trans q4; have q5 := (hb.cell (p := ⟨wr.heap.size, 5, none⟩) (lt_of_cell q5)).trans q5; clear hb q0 q1 q2 q3)
              | (go_at_call 40; (with_reducible refine (HI2.out HNE.out _ HZ3.out _ HW4.out).mono ?_); rintro e w5 ⟨rfl, hb⟩; have HB5 := hb_step HB4 hb; clear hb)
              | (go_at_call 40; (with_reducible refine (HI1.out HNB.out _ HZ2.out _ HW3.out).mono ?_); rintro e w4 ⟨rfl, hb⟩; have HB4 := hb_step HB3 hb; have HW4 := hb_step HW3 hb; have q5 := (hb.cell (p := ⟨wr.heap.size, 5, none⟩) (lt_of_cell q5)).trans q5; clear hb))
            all_goals first
              | (go_ret
                 have hf : t = false := by
                   have hq := HR.out
                   have hs := HS.out
                   go_light
                   clear HR HS HNm HZ1 HZ2 HZ3
                   cases t with
                   | false => rfl
                   | true =>
                     exfalso
                     obtain ⟨h1, h2, h3, h4, h5, h6, h7, h8⟩ := hq.1 rfl
                     simp_all
                     try omega
                 obtain rfl : q = false := by rw [← HQ.out, HM.out hf]
                 first
                   | exact ⟨rfl, HB5.out⟩
                   | exact ⟨rfl, HB2.out⟩)
              | (have hf : t = true := by
                   have hq := HR.out
                   have hs := HS.out
                   go_light
                   clear HR HS HNm HZ1 HZ2 HZ3
                   refine hq.2 ?_
                   simp_all
                   try omega
                 go_roundw
                 case rel => exact ⟨k + 1, by go_num, by omega, HB5, by show _ = _; rw [HT.out, HK.out, hf]; rfl⟩
                 case measure => simp [intOf]; omega)
        · as_aux_lemma =>
          have HR := Lib.hid (stmtB_2 n s pl bl el z1 z2 z3 nm HNm.out t HX.out)
          clear HX
          cases nm
          all_goals
            go_wp2_with (first
              | (go_at_call 39; refine (rname_r s _ HNm.out _).mono ?_; rintro e w' ⟨rfl, hb⟩; have HB2 : Hid (Below w.heap.size w w') := hb_step (hb_alloc HB _) hb; have HW2 : Hid (Below w0.heap.size w0 w') := hb_step (hb_alloc HWB _) hb; have q0 := (hb.cell (p := ⟨wr.heap.size, 0, none⟩) (by simp)).trans (show _ = some (Value.int .i64 2) by simp); have q1 := (hb.cell (p := ⟨wr.heap.size, 1, none⟩) (by simp)).trans (show _ = some (Value.string s) by simp); have q2 := (hb.cell (p := ⟨wr.heap.size, 2, none⟩) (by simp)).trans (show _ = some (Value.int .i64 n) by simp); have q3 := (hb.cell (p := ⟨wr.heap.size, 3, none⟩) (by simp)).trans (show _ = some (Value.slice pa pl pc) by simp); have q4 := (hb.cell (p := ⟨wr.heap.size, 4, none⟩) (by simp)).trans (show _ = some (Value.slice ba bl bc) by simp); have q5 := (hb.cell (p := ⟨wr.heap.size, 5, none⟩) (by simp)).trans (show _ = some (Value.slice ea el ec) by simp); clear hb)
              | (go_at_call 69; refine (rexprs_in w0 HI0.out HNP.out _ HZ1.out _ HW2.out).mono ?_; rintro e w3 ⟨rfl, hb⟩; have HB3 := hb_step HB2 hb; have HW3 := hb_step HW2 hb; have q4 := (hb.cell (p := ⟨wr.heap.size, 4, none⟩) (lt_of_cell q4)).trans q4; have q5 := (hb.cell (p := ⟨wr.heap.size, 5, none⟩) (lt_of_cell q5)).trans q5; clear hb q0 q1 q2 q3)
              | (go_at_call 40; (with_reducible refine (HI2.out HNE.out _ HZ3.out _ HW4.out).mono ?_); rintro e w5 ⟨rfl, hb⟩; have HB5 := hb_step HB4 hb; clear hb)
              | (go_at_call 40; (with_reducible refine (HI1.out HNB.out _ HZ2.out _ HW3.out).mono ?_); rintro e w4 ⟨rfl, hb⟩; have HB4 := hb_step HB3 hb; have HW4 := hb_step HW3 hb; have q5 := (hb.cell (p := ⟨wr.heap.size, 5, none⟩) (lt_of_cell q5)).trans q5; clear hb))
            all_goals first
              | (go_ret
                 have hf : t = false := by
                   have hq := HR.out
                   have hs := HS.out
                   go_light
                   clear HR HS HNm HZ1 HZ2 HZ3
                   cases t with
                   | false => rfl
                   | true =>
                     exfalso
                     obtain ⟨h1, h2, h3, h4, h5, h6, h7, h8⟩ := hq.1 rfl
                     simp_all
                     try omega
                 obtain rfl : q = false := by rw [← HQ.out, HM.out hf]
                 first
                   | exact ⟨rfl, HB5.out⟩
                   | exact ⟨rfl, HB2.out⟩)
              | (have hf : t = true := by
                   have hq := HR.out
                   have hs := HS.out
                   go_light
                   clear HR HS HNm HZ1 HZ2 HZ3
                   refine hq.2 ?_
                   simp_all
                   try omega
                 go_roundw
                 case rel => exact ⟨k + 1, by go_num, by omega, HB5, by show _ = _; rw [HT.out, HK.out, hf]; rfl⟩
                 case measure => simp [intOf]; omega)
        · as_aux_lemma =>
          have HR := Lib.hid (stmtB_3 n s pl bl el z1 z2 z3 nm HNm.out t HX.out)
          clear HX
          cases nm
          all_goals
            go_wp2_with (first
              | (go_at_call 39; refine (rname_r s _ HNm.out _).mono ?_; rintro e w' ⟨rfl, hb⟩; have HB2 : Hid (Below w.heap.size w w') := hb_step (hb_alloc HB _) hb; have HW2 : Hid (Below w0.heap.size w0 w') := hb_step (hb_alloc HWB _) hb; have q0 := (hb.cell (p := ⟨wr.heap.size, 0, none⟩) (by simp)).trans (show _ = some (Value.int .i64 3) by simp); have q1 := (hb.cell (p := ⟨wr.heap.size, 1, none⟩) (by simp)).trans (show _ = some (Value.string s) by simp); have q2 := (hb.cell (p := ⟨wr.heap.size, 2, none⟩) (by simp)).trans (show _ = some (Value.int .i64 n) by simp); have q3 := (hb.cell (p := ⟨wr.heap.size, 3, none⟩) (by simp)).trans (show _ = some (Value.slice pa pl pc) by simp); have q4 := (hb.cell (p := ⟨wr.heap.size, 4, none⟩) (by simp)).trans (show _ = some (Value.slice ba bl bc) by simp); have q5 := (hb.cell (p := ⟨wr.heap.size, 5, none⟩) (by simp)).trans (show _ = some (Value.slice ea el ec) by simp); clear hb)
              | (go_at_call 69; refine (rexprs_in w0 HI0.out HNP.out _ HZ1.out _ HW2.out).mono ?_; rintro e w3 ⟨rfl, hb⟩; have HB3 := hb_step HB2 hb; have HW3 := hb_step HW2 hb; have q4 := (hb.cell (p := ⟨wr.heap.size, 4, none⟩) (lt_of_cell q4)).trans q4; have q5 := (hb.cell (p := ⟨wr.heap.size, 5, none⟩) (lt_of_cell q5)).trans q5; clear hb q0 q1 q2 q3)
              | (go_at_call 40; (with_reducible refine (HI2.out HNE.out _ HZ3.out _ HW4.out).mono ?_); rintro e w5 ⟨rfl, hb⟩; have HB5 := hb_step HB4 hb; clear hb)
              | (go_at_call 40; (with_reducible refine (HI1.out HNB.out _ HZ2.out _ HW3.out).mono ?_); rintro e w4 ⟨rfl, hb⟩; have HB4 := hb_step HB3 hb; have HW4 := hb_step HW3 hb; have q5 := (hb.cell (p := ⟨wr.heap.size, 5, none⟩) (lt_of_cell q5)).trans q5; clear hb))
            all_goals first
              | (go_ret
                 have hf : t = false := by
                   have hq := HR.out
                   have hs := HS.out
                   go_light
                   clear HR HS HNm HZ1 HZ2 HZ3
                   cases t with
                   | false => rfl
                   | true =>
                     exfalso
                     obtain ⟨h1, h2, h3, h4, h5, h6, h7, h8⟩ := hq.1 rfl
                     simp_all
                     try omega
                 obtain rfl : q = false := by rw [← HQ.out, HM.out hf]
                 first
                   | exact ⟨rfl, HB5.out⟩
                   | exact ⟨rfl, HB2.out⟩)
              | (have hf : t = true := by
                   have hq := HR.out
                   have hs := HS.out
                   go_light
                   clear HR HS HNm HZ1 HZ2 HZ3
                   refine hq.2 ?_
                   simp_all
                   try omega
                 go_roundw
                 case rel => exact ⟨k + 1, by go_num, by omega, HB5, by show _ = _; rw [HT.out, HK.out, hf]; rfl⟩
                 case measure => simp [intOf]; omega)
        · as_aux_lemma =>
          have HR := Lib.hid (stmtB_4 n s pl bl el z1 z2 z3 nm HNm.out t HX.out)
          clear HX
          cases nm
          all_goals
            go_wp2_with (first
              | (go_at_call 39; refine (rname_r s _ HNm.out _).mono ?_; rintro e w' ⟨rfl, hb⟩; have HB2 : Hid (Below w.heap.size w w') := hb_step (hb_alloc HB _) hb; have HW2 : Hid (Below w0.heap.size w0 w') := hb_step (hb_alloc HWB _) hb; have q0 := (hb.cell (p := ⟨wr.heap.size, 0, none⟩) (by simp)).trans (show _ = some (Value.int .i64 4) by simp); have q1 := (hb.cell (p := ⟨wr.heap.size, 1, none⟩) (by simp)).trans (show _ = some (Value.string s) by simp); have q2 := (hb.cell (p := ⟨wr.heap.size, 2, none⟩) (by simp)).trans (show _ = some (Value.int .i64 n) by simp); have q3 := (hb.cell (p := ⟨wr.heap.size, 3, none⟩) (by simp)).trans (show _ = some (Value.slice pa pl pc) by simp); have q4 := (hb.cell (p := ⟨wr.heap.size, 4, none⟩) (by simp)).trans (show _ = some (Value.slice ba bl bc) by simp); have q5 := (hb.cell (p := ⟨wr.heap.size, 5, none⟩) (by simp)).trans (show _ = some (Value.slice ea el ec) by simp); clear hb)
              | (go_at_call 69; refine (rexprs_in w0 HI0.out HNP.out _ HZ1.out _ HW2.out).mono ?_; rintro e w3 ⟨rfl, hb⟩; have HB3 := hb_step HB2 hb; have HW3 := hb_step HW2 hb; have q4 := (hb.cell (p := ⟨wr.heap.size, 4, none⟩) (lt_of_cell q4)).trans q4; have q5 := (hb.cell (p := ⟨wr.heap.size, 5, none⟩) (lt_of_cell q5)).trans q5; clear hb q0 q1 q2 q3)
              | (go_at_call 40; (with_reducible refine (HI2.out HNE.out _ HZ3.out _ HW4.out).mono ?_); rintro e w5 ⟨rfl, hb⟩; have HB5 := hb_step HB4 hb; clear hb)
              | (go_at_call 40; (with_reducible refine (HI1.out HNB.out _ HZ2.out _ HW3.out).mono ?_); rintro e w4 ⟨rfl, hb⟩; have HB4 := hb_step HB3 hb; have HW4 := hb_step HW3 hb; have q5 := (hb.cell (p := ⟨wr.heap.size, 5, none⟩) (lt_of_cell q5)).trans q5; clear hb))
            all_goals first
              | (go_ret
                 have hf : t = false := by
                   have hq := HR.out
                   have hs := HS.out
                   go_light
                   clear HR HS HNm HZ1 HZ2 HZ3
                   cases t with
                   | false => rfl
                   | true =>
                     exfalso
                     obtain ⟨h1, h2, h3, h4, h5, h6, h7, h8⟩ := hq.1 rfl
                     simp_all
                     try omega
                 obtain rfl : q = false := by rw [← HQ.out, HM.out hf]
                 first
                   | exact ⟨rfl, HB5.out⟩
                   | exact ⟨rfl, HB2.out⟩)
              | (have hf : t = true := by
                   have hq := HR.out
                   have hs := HS.out
                   go_light
                   clear HR HS HNm HZ1 HZ2 HZ3
                   refine hq.2 ?_
                   simp_all
                   try omega
                 go_roundw
                 case rel => exact ⟨k + 1, by go_num, by omega, HB5, by show _ = _; rw [HT.out, HK.out, hf]; rfl⟩
                 case measure => simp [intOf]; omega)
        · as_aux_lemma =>
          have HR := Lib.hid (stmtB_5 n s pl bl el z1 z2 z3 nm HNm.out t HX.out)
          clear HX
          cases nm
          all_goals
            go_wp2_with (first
              | (go_at_call 39; refine (rname_r s _ HNm.out _).mono ?_; rintro e w' ⟨rfl, hb⟩; have HB2 : Hid (Below w.heap.size w w') := hb_step (hb_alloc HB _) hb; have HW2 : Hid (Below w0.heap.size w0 w') := hb_step (hb_alloc HWB _) hb; have q0 := (hb.cell (p := ⟨wr.heap.size, 0, none⟩) (by simp)).trans (show _ = some (Value.int .i64 5) by simp); have q1 := (hb.cell (p := ⟨wr.heap.size, 1, none⟩) (by simp)).trans (show _ = some (Value.string s) by simp); have q2 := (hb.cell (p := ⟨wr.heap.size, 2, none⟩) (by simp)).trans (show _ = some (Value.int .i64 n) by simp); have q3 := (hb.cell (p := ⟨wr.heap.size, 3, none⟩) (by simp)).trans (show _ = some (Value.slice pa pl pc) by simp); have q4 := (hb.cell (p := ⟨wr.heap.size, 4, none⟩) (by simp)).trans (show _ = some (Value.slice ba bl bc) by simp); have q5 := (hb.cell (p := ⟨wr.heap.size, 5, none⟩) (by simp)).trans (show _ = some (Value.slice ea el ec) by simp); clear hb)
              | (go_at_call 69; refine (rexprs_in w0 HI0.out HNP.out _ HZ1.out _ HW2.out).mono ?_; rintro e w3 ⟨rfl, hb⟩; have HB3 := hb_step HB2 hb; have HW3 := hb_step HW2 hb; have q4 := (hb.cell (p := ⟨wr.heap.size, 4, none⟩) (lt_of_cell q4)).trans q4; have q5 := (hb.cell (p := ⟨wr.heap.size, 5, none⟩) (lt_of_cell q5)).trans q5; clear hb q0 q1 q2 q3)
              | (go_at_call 40; (with_reducible refine (HI2.out HNE.out _ HZ3.out _ HW4.out).mono ?_); rintro e w5 ⟨rfl, hb⟩; have HB5 := hb_step HB4 hb; clear hb)
              | (go_at_call 40; (with_reducible refine (HI1.out HNB.out _ HZ2.out _ HW3.out).mono ?_); rintro e w4 ⟨rfl, hb⟩; have HB4 := hb_step HB3 hb; have HW4 := hb_step HW3 hb; have q5 := (hb.cell (p := ⟨wr.heap.size, 5, none⟩) (lt_of_cell q5)).trans q5; clear hb))
            all_goals first
              | (go_ret
                 have hf : t = false := by
                   have hq := HR.out
                   have hs := HS.out
                   go_light
                   clear HR HS HNm HZ1 HZ2 HZ3
                   cases t with
                   | false => rfl
                   | true =>
                     exfalso
                     obtain ⟨h1, h2, h3, h4, h5, h6, h7, h8⟩ := hq.1 rfl
                     simp_all
                     try omega
                 obtain rfl : q = false := by rw [← HQ.out, HM.out hf]
                 first
                   | exact ⟨rfl, HB5.out⟩
                   | exact ⟨rfl, HB2.out⟩)
              | (have hf : t = true := by
                   have hq := HR.out
                   have hs := HS.out
                   go_light
                   clear HR HS HNm HZ1 HZ2 HZ3
                   refine hq.2 ?_
                   simp_all
                   try omega
                 go_roundw
                 case rel => exact ⟨k + 1, by go_num, by omega, HB5, by show _ = _; rw [HT.out, HK.out, hf]; rfl⟩
                 case measure => simp [intOf]; omega)
        · as_aux_lemma =>
          have HR := Lib.hid (stmtB_6 n s pl bl el z1 z2 z3 nm HNm.out t HX.out)
          clear HX
          cases nm
          all_goals
            go_wp2_with (first
              | (go_at_call 39; refine (rname_r s _ HNm.out _).mono ?_; rintro e w' ⟨rfl, hb⟩; have HB2 : Hid (Below w.heap.size w w') := hb_step (hb_alloc HB _) hb; have HW2 : Hid (Below w0.heap.size w0 w') := hb_step (hb_alloc HWB _) hb; have q0 := (hb.cell (p := ⟨wr.heap.size, 0, none⟩) (by simp)).trans (show _ = some (Value.int .i64 6) by simp); have q1 := (hb.cell (p := ⟨wr.heap.size, 1, none⟩) (by simp)).trans (show _ = some (Value.string s) by simp); have q2 := (hb.cell (p := ⟨wr.heap.size, 2, none⟩) (by simp)).trans (show _ = some (Value.int .i64 n) by simp); have q3 := (hb.cell (p := ⟨wr.heap.size, 3, none⟩) (by simp)).trans (show _ = some (Value.slice pa pl pc) by simp); have q4 := (hb.cell (p := ⟨wr.heap.size, 4, none⟩) (by simp)).trans (show _ = some (Value.slice ba bl bc) by simp); have q5 := (hb.cell (p := ⟨wr.heap.size, 5, none⟩) (by simp)).trans (show _ = some (Value.slice ea el ec) by simp); clear hb)
              | (go_at_call 69; refine (rexprs_in w0 HI0.out HNP.out _ HZ1.out _ HW2.out).mono ?_; rintro e w3 ⟨rfl, hb⟩; have HB3 := hb_step HB2 hb; have HW3 := hb_step HW2 hb; have q4 := (hb.cell (p := ⟨wr.heap.size, 4, none⟩) (lt_of_cell q4)).trans q4; have q5 := (hb.cell (p := ⟨wr.heap.size, 5, none⟩) (lt_of_cell q5)).trans q5; clear hb q0 q1 q2 q3)
              | (go_at_call 40; (with_reducible refine (HI2.out HNE.out _ HZ3.out _ HW4.out).mono ?_); rintro e w5 ⟨rfl, hb⟩; have HB5 := hb_step HB4 hb; clear hb)
              | (go_at_call 40; (with_reducible refine (HI1.out HNB.out _ HZ2.out _ HW3.out).mono ?_); rintro e w4 ⟨rfl, hb⟩; have HB4 := hb_step HB3 hb; have HW4 := hb_step HW3 hb; have q5 := (hb.cell (p := ⟨wr.heap.size, 5, none⟩) (lt_of_cell q5)).trans q5; clear hb))
            all_goals first
              | (go_ret
                 have hf : t = false := by
                   have hq := HR.out
                   have hs := HS.out
                   go_light
                   clear HR HS HNm HZ1 HZ2 HZ3
                   cases t with
                   | false => rfl
                   | true =>
                     exfalso
                     obtain ⟨h1, h2, h3, h4, h5, h6, h7, h8⟩ := hq.1 rfl
                     simp_all
                     try omega
                 obtain rfl : q = false := by rw [← HQ.out, HM.out hf]
                 first
                   | exact ⟨rfl, HB5.out⟩
                   | exact ⟨rfl, HB2.out⟩)
              | (have hf : t = true := by
                   have hq := HR.out
                   have hs := HS.out
                   go_light
                   clear HR HS HNm HZ1 HZ2 HZ3
                   refine hq.2 ?_
                   simp_all
                   try omega
                 go_roundw
                 case rel => exact ⟨k + 1, by go_num, by omega, HB5, by show _ = _; rw [HT.out, HK.out, hf]; rfl⟩
                 case measure => simp [intOf]; omega)
        · as_aux_lemma =>
          have HR := Lib.hid (stmtB_7 n s pl bl el z1 z2 z3 nm HNm.out t HX.out)
          clear HX
          cases nm
          all_goals
            go_wp2_with (first
              | (go_at_call 39; refine (rname_r s _ HNm.out _).mono ?_; rintro e w' ⟨rfl, hb⟩; have HB2 : Hid (Below w.heap.size w w') := hb_step (hb_alloc HB _) hb; have HW2 : Hid (Below w0.heap.size w0 w') := hb_step (hb_alloc HWB _) hb; have q0 := (hb.cell (p := ⟨wr.heap.size, 0, none⟩) (by simp)).trans (show _ = some (Value.int .i64 7) by simp); have q1 := (hb.cell (p := ⟨wr.heap.size, 1, none⟩) (by simp)).trans (show _ = some (Value.string s) by simp); have q2 := (hb.cell (p := ⟨wr.heap.size, 2, none⟩) (by simp)).trans (show _ = some (Value.int .i64 n) by simp); have q3 := (hb.cell (p := ⟨wr.heap.size, 3, none⟩) (by simp)).trans (show _ = some (Value.slice pa pl pc) by simp); have q4 := (hb.cell (p := ⟨wr.heap.size, 4, none⟩) (by simp)).trans (show _ = some (Value.slice ba bl bc) by simp); have q5 := (hb.cell (p := ⟨wr.heap.size, 5, none⟩) (by simp)).trans (show _ = some (Value.slice ea el ec) by simp); clear hb)
              | (go_at_call 69; refine (rexprs_in w0 HI0.out HNP.out _ HZ1.out _ HW2.out).mono ?_; rintro e w3 ⟨rfl, hb⟩; have HB3 := hb_step HB2 hb; have HW3 := hb_step HW2 hb; have q4 := (hb.cell (p := ⟨wr.heap.size, 4, none⟩) (lt_of_cell q4)).trans q4; have q5 := (hb.cell (p := ⟨wr.heap.size, 5, none⟩) (lt_of_cell q5)).trans q5; clear hb q0 q1 q2 q3)
              | (go_at_call 40; (with_reducible refine (HI2.out HNE.out _ HZ3.out _ HW4.out).mono ?_); rintro e w5 ⟨rfl, hb⟩; have HB5 := hb_step HB4 hb; clear hb)
              | (go_at_call 40; (with_reducible refine (HI1.out HNB.out _ HZ2.out _ HW3.out).mono ?_); rintro e w4 ⟨rfl, hb⟩; have HB4 := hb_step HB3 hb; have HW4 := hb_step HW3 hb; have q5 := (hb.cell (p := ⟨wr.heap.size, 5, none⟩) (lt_of_cell q5)).trans q5; clear hb))
            all_goals first
              | (go_ret
                 have hf : t = false := by
                   have hq := HR.out
                   have hs := HS.out
                   go_light
                   clear HR HS HNm HZ1 HZ2 HZ3
                   cases t with
                   | false => rfl
                   | true =>
                     exfalso
                     obtain ⟨h1, h2, h3, h4, h5, h6, h7, h8⟩ := hq.1 rfl
                     simp_all
                     try omega
                 obtain rfl : q = false := by rw [← HQ.out, HM.out hf]
                 first
                   | exact ⟨rfl, HB5.out⟩
                   | exact ⟨rfl, HB2.out⟩)
              | (have hf : t = true := by
                   have hq := HR.out
                   have hs := HS.out
                   go_light
                   clear HR HS HNm HZ1 HZ2 HZ3
                   refine hq.2 ?_
                   simp_all
                   try omega
                 go_roundw
                 case rel => exact ⟨k + 1, by go_num, by omega, HB5, by show _ = _; rw [HT.out, HK.out, hf]; rfl⟩
                 case measure => simp [intOf]; omega)
        · as_aux_lemma =>
          have HR := Lib.hid (stmtB_8 n s pl bl el z1 z2 z3 nm HNm.out t HX.out)
          clear HX
          cases nm
          all_goals
            go_wp2_with (first
              | (go_at_call 39; refine (rname_r s _ HNm.out _).mono ?_; rintro e w' ⟨rfl, hb⟩; have HB2 : Hid (Below w.heap.size w w') := hb_step (hb_alloc HB _) hb; have HW2 : Hid (Below w0.heap.size w0 w') := hb_step (hb_alloc HWB _) hb; have q0 := (hb.cell (p := ⟨wr.heap.size, 0, none⟩) (by simp)).trans (show _ = some (Value.int .i64 8) by simp); have q1 := (hb.cell (p := ⟨wr.heap.size, 1, none⟩) (by simp)).trans (show _ = some (Value.string s) by simp); have q2 := (hb.cell (p := ⟨wr.heap.size, 2, none⟩) (by simp)).trans (show _ = some (Value.int .i64 n) by simp); have q3 := (hb.cell (p := ⟨wr.heap.size, 3, none⟩) (by simp)).trans (show _ = some (Value.slice pa pl pc) by simp); have q4 := (hb.cell (p := ⟨wr.heap.size, 4, none⟩) (by simp)).trans (show _ = some (Value.slice ba bl bc) by simp); have q5 := (hb.cell (p := ⟨wr.heap.size, 5, none⟩) (by simp)).trans (show _ = some (Value.slice ea el ec) by simp); clear hb)
              | (go_at_call 69; refine (rexprs_in w0 HI0.out HNP.out _ HZ1.out _ HW2.out).mono ?_; rintro e w3 ⟨rfl, hb⟩; have HB3 := hb_step HB2 hb; have HW3 := hb_step HW2 hb; have q4 := (hb.cell (p := ⟨wr.heap.size, 4, none⟩) (lt_of_cell q4)).trans q4; have q5 := (hb.cell (p := ⟨wr.heap.size, 5, none⟩) (lt_of_cell q5)).trans q5; clear hb q0 q1 q2 q3)
              | (go_at_call 40; (with_reducible refine (HI2.out HNE.out _ HZ3.out _ HW4.out).mono ?_); rintro e w5 ⟨rfl, hb⟩; have HB5 := hb_step HB4 hb; clear hb)
              | (go_at_call 40; (with_reducible refine (HI1.out HNB.out _ HZ2.out _ HW3.out).mono ?_); rintro e w4 ⟨rfl, hb⟩; have HB4 := hb_step HB3 hb; have HW4 := hb_step HW3 hb; have q5 := (hb.cell (p := ⟨wr.heap.size, 5, none⟩) (lt_of_cell q5)).trans q5; clear hb))
            all_goals first
              | (go_ret
                 have hf : t = false := by
                   have hq := HR.out
                   have hs := HS.out
                   go_light
                   clear HR HS HNm HZ1 HZ2 HZ3
                   cases t with
                   | false => rfl
                   | true =>
                     exfalso
                     obtain ⟨h1, h2, h3, h4, h5, h6, h7, h8⟩ := hq.1 rfl
                     simp_all
                     try omega
                 obtain rfl : q = false := by rw [← HQ.out, HM.out hf]
                 first
                   | exact ⟨rfl, HB5.out⟩
                   | exact ⟨rfl, HB2.out⟩)
              | (have hf : t = true := by
                   have hq := HR.out
                   have hs := HS.out
                   go_light
                   clear HR HS HNm HZ1 HZ2 HZ3
                   refine hq.2 ?_
                   simp_all
                   try omega
                 go_roundw
                 case rel => exact ⟨k + 1, by go_num, by omega, HB5, by show _ = _; rw [HT.out, HK.out, hf]; rfl⟩
                 case measure => simp [intOf]; omega)
        · as_aux_lemma =>
          have HR := Lib.hid (stmtB_9 n s pl bl el z1 z2 z3 nm HNm.out t HX.out)
          clear HX
          cases nm
          all_goals
            go_wp2_with (first
              | (go_at_call 39; refine (rname_r s _ HNm.out _).mono ?_; rintro e w' ⟨rfl, hb⟩; have HB2 : Hid (Below w.heap.size w w') := hb_step (hb_alloc HB _) hb; have HW2 : Hid (Below w0.heap.size w0 w') := hb_step (hb_alloc HWB _) hb; have q0 := (hb.cell (p := ⟨wr.heap.size, 0, none⟩) (by simp)).trans (show _ = some (Value.int .i64 9) by simp); have q1 := (hb.cell (p := ⟨wr.heap.size, 1, none⟩) (by simp)).trans (show _ = some (Value.string s) by simp); have q2 := (hb.cell (p := ⟨wr.heap.size, 2, none⟩) (by simp)).trans (show _ = some (Value.int .i64 n) by simp); have q3 := (hb.cell (p := ⟨wr.heap.size, 3, none⟩) (by simp)).trans (show _ = some (Value.slice pa pl pc) by simp); have q4 := (hb.cell (p := ⟨wr.heap.size, 4, none⟩) (by simp)).trans (show _ = some (Value.slice ba bl bc) by simp); have q5 := (hb.cell (p := ⟨wr.heap.size, 5, none⟩) (by simp)).trans (show _ = some (Value.slice ea el ec) by simp); clear hb)
              | (go_at_call 69; refine (rexprs_in w0 HI0.out HNP.out _ HZ1.out _ HW2.out).mono ?_; rintro e w3 ⟨rfl, hb⟩; have HB3 := hb_step HB2 hb; have HW3 := hb_step HW2 hb; have q4 := (hb.cell (p := ⟨wr.heap.size, 4, none⟩) (lt_of_cell q4)).trans q4; have q5 := (hb.cell (p := ⟨wr.heap.size, 5, none⟩) (lt_of_cell q5)).trans q5; clear hb q0 q1 q2 q3)
              | (go_at_call 40; (with_reducible refine (HI2.out HNE.out _ HZ3.out _ HW4.out).mono ?_); rintro e w5 ⟨rfl, hb⟩; have HB5 := hb_step HB4 hb; clear hb)
              | (go_at_call 40; (with_reducible refine (HI1.out HNB.out _ HZ2.out _ HW3.out).mono ?_); rintro e w4 ⟨rfl, hb⟩; have HB4 := hb_step HB3 hb; have HW4 := hb_step HW3 hb; have q5 := (hb.cell (p := ⟨wr.heap.size, 5, none⟩) (lt_of_cell q5)).trans q5; clear hb))
            all_goals first
              | (go_ret
                 have hf : t = false := by
                   have hq := HR.out
                   have hs := HS.out
                   go_light
                   clear HR HS HNm HZ1 HZ2 HZ3
                   cases t with
                   | false => rfl
                   | true =>
                     exfalso
                     obtain ⟨h1, h2, h3, h4, h5, h6, h7, h8⟩ := hq.1 rfl
                     simp_all
                     try omega
                 obtain rfl : q = false := by rw [← HQ.out, HM.out hf]
                 first
                   | exact ⟨rfl, HB5.out⟩
                   | exact ⟨rfl, HB2.out⟩)
              | (have hf : t = true := by
                   have hq := HR.out
                   have hs := HS.out
                   go_light
                   clear HR HS HNm HZ1 HZ2 HZ3
                   refine hq.2 ?_
                   simp_all
                   try omega
                 go_roundw
                 case rel => exact ⟨k + 1, by go_num, by omega, HB5, by show _ = _; rw [HT.out, HK.out, hf]; rfl⟩
                 case measure => simp [intOf]; omega)
      · obtain rfl : k = l.length := by omega
        obtain rfl : q = true := by rw [← HQ.out, ← HK.out, List.take_length]
        go_wp2
        go_ret
        exact ⟨rfl, HB.out⟩
end Go.Proofs.YthjjcmmonjajhaaGreatDoor
