/- The names of statements are gathered. -/
import Derived.Test.YthjjcmmonjajhaaGreatDoorScopeExprs
namespace Go.Proofs.YthjjcmmonjajhaaGreatDoor
open Go.RowKit Go.Sort Go.Maps
set_option linter.unusedVariables false

mutual
theorem ST.nodes_len' : ∀ (e : ST) (d d' : Int), (e.nodes d).length = (e.nodes d').length
  | .mk o n s l b e, d, d' => by simp only [ST.nodes, List.length_cons, List.length_append]; rw [ET.nodesL_len' l _ (wrap64 (d' + 1)), ST.nodesL_len' b _ (wrap64 (d' + 1)), ST.nodesL_len' e _ (wrap64 (d' + 1))]
theorem ST.nodesL_len' : ∀ (l : List ST) (d d' : Int), (ST.nodesL l d).length = (ST.nodesL l d').length
  | [], _, _ => rfl
  | e :: r, d, d' => by simp only [ST.nodesL, List.length_append]; rw [ST.nodes_len' e d d', ST.nodesL_len' r d d']
end
theorem SSl.shape0' {w : World} {v : Value} {l : List ST} (h : SSl w v l) : ∃ a cap, v = .slice a l.length cap := by cases h; exact ⟨_, _, rfl⟩
theorem ST.own_le (o : Int) (s : ByteArray) {st : FS} {k : Nat} (h : st.le k) : (ST.own o s st).le (k + 1) := by
  have h1 := addL_le st.vars s
  have h2 := addL_le st.arrays s
  have h3 := addL_le st.made s
  obtain ⟨a, b, c⟩ := h
  unfold ST.own
  split
  · exact ⟨by simp only; omega, by simp only; omega, by simp only; omega⟩
  · split
    · exact ⟨by simp only; omega, by simp only; omega, by simp only; omega⟩
    · split
      · exact ⟨by simp only; omega, by simp only; omega, by simp only; omega⟩
      · exact ⟨by omega, by omega, by omega⟩
/-- What a walk through a row does to the finder, wherever it is called. -/
def Gathers (f : Nat) (w0 : World) (n0 fb pb : Nat) (v : Value) (st st' : FS) : Prop :=
  ∀ W, Below w0.heap.size w0 W → Fd n0 W fb (clV pb) st → n0 ≤ W.heap.size → Calls Tryz.prog f #[.pointer (some ⟨fb, 0, none⟩), v] W fun e w' => e = .returned (.tuple #[]) ∧ Fk n0 fb W w' ∧ Fd n0 w' fb (clV pb) st'

set_option maxHeartbeats 8000000 in
set_option maxRecDepth 1000000 in
theorem fstmts_in (w0 : World) {v : Value} {l : List ST} (h : SSl w0 v l) : ST.shL l = true → ∀ (n0 fb pb pm pn : Nat) (fs : List FT) (st : FS) (q : Nat) (h0 : w0.heap.size ≤ n0) (hp : PmAt w0 pb pm pn fs) (hq : st.le q) (hl : q + (ST.nodesL l 0).length ≤ 4194304),
    Gathers 27 w0 n0 fb pb v st (ST.gatherL (callB fs) l st) := by
  induction h with
  | mk a b off cap l f g hh ha hc hm hcell hsub hsub1 hsub2 ih1 ih2 =>
    intro hsh n0 fb pb pm pn fs st q h0 hp hq hl W hB hf hn
    have HA := Lib.hid ha
    have HC := Lib.hid hcell
    have HIH1 := Lib.hid ih1
    have HIH2 := Lib.hid ih2
    have HSub := Lib.hid hsub
    have HSub1 := Lib.hid hsub1
    have HSub2 := Lib.hid hsub2
    have HSh := Lib.hid ((ST.shL_iff l).1 hsh)
    have HB0 := Lib.hid hB
    have HF := Lib.hid hf
    have HP := Lib.hid hp
    have HQ := Lib.hid hq
    have HL := Lib.hid hl
    have hm1 : cap ≤ 9223372036854775807 := hm
    clear ha hcell ih1 ih2 hsub hsub1 hsub2 hsh hB hf hp hq hm hl
    go_enter Tryz.func27, Tryz.ntmps27
    go_wp2
    go_loopw [8] (fun i wr => ∃ k : Nat, i = .int .i64 k ∧ k ≤ l.length ∧ Hid (Fk n0 fb W wr) ∧ Hid (Fd n0 wr fb (clV pb) (ST.gatherL (callB fs) (l.take k) st))) (fun i _ => l.length - (intOf i).toNat)
    case atStart => exact ⟨0, rfl, by omega, Fk.refl _ _ _, HF.out⟩
    case round =>
      obtain ⟨k, rfl, hk, HK, HR0⟩ := hrel
      by_cases hlt : k < l.length
      · obtain rfl := HA.out (by omega)
        obtain ⟨e0, e1, e2, e3, e4, e5⟩ := HC.out k hlt
        have WB : Below w0.heap.size w0 wr := HB0.out.trans (HK.out.below.mono h0)
        have hz : b < w0.heap.size := lt_of_cell e0
        replace e0 := (WB.cell (p := ⟨b, off + k * 6, none⟩) hz).trans e0
        replace e1 := (WB.cell (p := ⟨b, off + k * 6 + 1, none⟩) hz).trans e1
        replace e2 := (WB.cell (p := ⟨b, off + k * 6 + 2, none⟩) hz).trans e2
        replace e3 := (WB.cell (p := ⟨b, off + k * 6 + 3, none⟩) hz).trans e3
        replace e4 := (WB.cell (p := ⟨b, off + k * 6 + 4, none⟩) hz).trans e4
        replace e5 := (WB.cell (p := ⟨b, off + k * 6 + 5, none⟩) hz).trans e5
        have HI1 := Lib.hid (HIH1.out k hlt)
        have HI2 := Lib.hid (HIH2.out k hlt)
        have HE := Lib.hid (HSub.out k hlt)
        have hT := ST.gatherL_take (callB fs) l st k hlt
        have hN := ST.nodesL_take l 0 k hlt
        have hNl : (ST.nodesL l 0).length = (ST.nodesL (l.take (k + 1)) 0).length + (ST.nodesL (l.drop (k + 1)) 0).length := by rw [← List.length_append, ← ST.nodesL_append, List.take_append_drop]
        have hX := (ST.shB_parts (l.getD k default)).symm.trans (HSh.out k hlt)
        have hshp := (HSub.out k hlt).shape0'
        have hshp1 := (HSub1.out k hlt).shape0'
        have hshp2 := (HSub2.out k hlt).shape0'
        generalize l.getD k default = x at e0 e1 e2 hT hN hX HI1 HI2 HE hshp hshp1 hshp2
        generalize f k = pv at e3 HE hshp
        generalize g k = pv1 at e4 HI1 hshp1
        generalize hh k = pv2 at e5 HI2 hshp2
        obtain ⟨o, n, s, ps, bs, es⟩ := x
        simp only [ST.op, ST.num, ST.name, ST.parts, ST.body, ST.els] at e0 e1 e2 hX HI1 HI2 HE hshp hshp1 hshp2
        obtain ⟨pa, pc, rfl, _, _⟩ := hshp
        obtain ⟨ba, bc, rfl⟩ := hshp1
        obtain ⟨ea, ec, rfl⟩ := hshp2
        have hss := of_decide_eq_true ((Bool.and_eq_true _ _).mp hX).1
        have hX2 := (Bool.and_eq_true _ _).mp ((Bool.and_eq_true _ _).mp hX).2
        have hX3 := (Bool.and_eq_true _ _).mp hX2.2
        rw [hN, List.length_append] at hNl
        have hle := ST.gatherL_le (callB fs) (l.take k) st q 0 HQ.out
        have hg : ST.gather (callB fs) (.mk o n s ps bs es) (ST.gatherL (callB fs) (l.take k) st) = ST.gatherL (callB fs) es (ST.gatherL (callB fs) bs (ET.gatherL (callB fs) ps (ST.own o s (ST.gatherL (callB fs) (l.take k) st)))) := rfl
        rw [hg] at hT
        clear hg
        have hnl : (ST.nodes (.mk o n s ps bs es) 0).length = 1 + ((ET.nodesL ps 0).length + ((ST.nodesL bs 0).length + (ST.nodesL es 0).length)) := by simp only [ST.nodes, List.length_cons, List.length_append]; rw [ET.nodesL_len' ps _ 0, ST.nodesL_len' bs _ 0, ST.nodesL_len' es _ 0]; omega
        have hbd : q + (ST.nodesL (l.take k) 0).length + 1 + ((ET.nodesL ps 0).length + ((ST.nodesL bs 0).length + (ST.nodesL es 0).length)) ≤ 4194304 := by have := HL.out; omega
        generalize q + (ST.nodesL (l.take k) 0).length = q1 at hle hbd
        generalize ST.gatherL (callB fs) (l.take k) st = st1 at HR0 hT hle
        have l1 := ST.own_le o s hle
        have l2 := ET.gatherL_le (callB fs) ps _ _ 0 l1
        have l3 := ST.gatherL_le (callB fs) bs _ _ 0 l2
        have HWB := Lib.hid WB
        have HNR : Hid (n0 ≤ wr.heap.size) := Nat.le_trans hn HK.out.size
        have HFL := Lib.hid HR0.out.lt
        have HSS := Lib.hid hss
        have HC1 : Hid (Gathers 54 w0 n0 fb pb (.slice pa ps.length pc) (ST.own o s st1) (ET.gatherL (callB fs) ps (ST.own o s st1))) := fun W' b1 b2 b3 => fexprs_in w0 HE.out hX2.1 n0 fb pb pm pn fs _ (q1 + 1) h0 HP.out W' b1 b2 b3 l1 (by omega)
        have HC2 : Hid (Gathers 27 w0 n0 fb pb (.slice ba bs.length bc) (ET.gatherL (callB fs) ps (ST.own o s st1)) (ST.gatherL (callB fs) bs (ET.gatherL (callB fs) ps (ST.own o s st1)))) := HI1.out hX3.1 n0 fb pb pm pn fs _ _ h0 HP.out l2 (by omega)
        have HC3 : Hid (Gathers 27 w0 n0 fb pb (.slice ea es.length ec) (ST.gatherL (callB fs) bs (ET.gatherL (callB fs) ps (ST.own o s st1))) (ST.gatherL (callB fs) (l.take (k + 1)) st)) := by
          show Gathers _ _ _ _ _ _ _ _
          rw [hT]
          exact HI2.out hX3.2 n0 fb pb pm pn fs _ _ h0 HP.out l3 (by omega)
        have HV1 : Hid (st1.vars.length ≤ 4194304) := Nat.le_trans hle.1 (by omega)
        have HV2 : Hid (st1.arrays.length ≤ 4194304) := Nat.le_trans hle.2.1 (by omega)
        have HV3 : Hid (st1.made.length ≤ 4194304) := Nat.le_trans hle.2.2 (by omega)
        have hbl : Below wr.heap.size wr (wr.alloc (.cells #[.int .i64 o, .string s, .int .i64 n, .slice pa ps.length pc, .slice ba bs.length bc, .slice ea es.length ec] 54)) := (Below.refl _ _).alloc (Nat.le_refl _) _
        have HBL := Lib.hid hbl
        have HBX0 : Hid ((wr.alloc (.cells #[.int .i64 o, .string s, .int .i64 n, .slice pa ps.length pc, .slice ba bs.length bc, .slice ea es.length ec] 54)).heap[wr.heap.size]? = some (.cells #[.int .i64 o, .string s, .int .i64 n, .slice pa ps.length pc, .slice ba bs.length bc, .slice ea es.length ec] 54 (0, 0))) := heap_alloc_new wr _
        have HFD := Lib.hid (HR0.out.stay hbl)
        generalize ET.gatherL (callB fs) ps (ST.own o s st1) = g1 at HC1 HC2 HC3 hT l2 l3
        generalize ST.gatherL (callB fs) bs g1 = g2 at HC2 HC3 hT l3
        generalize hpn : ps.length = pl at e3 HC1 HBL HBX0 HFD
        generalize hbn : bs.length = bl at e4 HC2 HBL HBX0 HFD
        generalize hen : es.length = el at e5 HC3 HBL HBX0 HFD
        clear hT hN hNl hX hX2 hX3 hle hnl WB hz hss hbl hbd l1 l2 l3 HE HI1 HI2 hpn hbn hen
        have ho4 : (o = 3 ∨ o = 2 ∨ o = 1 ∨ o = 4) ∨ ((o == 3) = false ∧ (o == 2) = false ∧ (o == 1) = false ∧ (o == 4) = false) := by
          by_cases h1 : o = 3
          · exact .inl (.inl h1)
          · by_cases h2 : o = 2
            · exact .inl (.inr (.inl h2))
            · by_cases h3 : o = 1
              · exact .inl (.inr (.inr (.inl h3)))
              · by_cases h4 : o = 4
                · exact .inl (.inr (.inr (.inr h4)))
                · exact .inr ⟨by simpa using h1, by simpa using h2, by simpa using h3, by simpa using h4⟩
        rcases ho4 with (rfl | rfl | rfl | rfl) | ⟨g1', g2', g3', g4'⟩
        · as_aux_lemma =>
          have hown : ST.own 3 s st1 = { st1 with made := addL st1.made s, arrays := addL st1.arrays s } := by unfold ST.own; simp
          rw [hown] at HC1
          clear hown
          go_upto_region 5 with fail
          obtain ⟨W1, hW1⟩ : ∃ z, (wr.alloc (.cells #[.int .i64 3, .string s, .int .i64 n, .slice pa pl pc, .slice ba bl bc, .slice ea el ec] 54)) = z := ⟨_, rfl⟩
          rw [hW1] at HBL HBX0 HFD ⊢
          generalize hbx : wr.heap.size = bx at HBX0 ⊢
          have HNE : Hid (bx ≠ fb) := by show bx ≠ fb; have := HFL.out; omega
          have HB1 := Lib.hid (cell_of_heap HBX0.out 1)
          have HK1 : Hid (Fk n0 fb wr W1) := Fk.of_below HNR.out HBL.out
          clear hW1 hbx
          refine region_flow rfl 5 rfl (by decide +kernel) [16, 17, 18, 19, 20] (by decide +kernel) rfl (by decide) (by simp) (fun w w' => Below w.heap.size w w') (fun w => Below W1.heap.size W1 w)
            (fun j v _ => v = ([.pointer (some ⟨fb, 0, none⟩), .pointer (some ⟨fb, 0, none⟩), .pointer (some ⟨fb, 4, none⟩), .pointer (some ⟨bx, 1, none⟩), .string s] : List Value).getD j undef) (fun _ _ _ _ _ h => h) ?hr5 ?hs5 ?hl5
          case hs5 =>
            intro ix hix a wx hR hout hdep
            have hix' : ix = 0 ∨ ix = 1 ∨ ix = 2 ∨ ix = 3 ∨ ix = 4 := by omega
            rcases hix' with rfl | rfl | rfl | rfl | rfl
            · have HR := Lib.hid hR
              clear hR
              have e0 := hout 0 (by decide)
              clear hout hdep
              refine op_list (by rfl) ?_
              go_wp2
              exact withK_intro ⟨_, rfl, Below.refl _ _, HR.out, rfl⟩
            · have HR := Lib.hid hR
              clear hR
              have e16 : a.tmps[16]? = some (.pointer (some ⟨fb, 0, none⟩)) := flow_dep hdep 0 16 (by kernel_rfl) rfl
              clear hout hdep
              refine op_list (by rfl) ?_
              go_wp2
              exact withK_intro ⟨_, rfl, Below.refl _ _, HR.out, rfl⟩
            · have HR := Lib.hid hR
              clear hR
              have e17 : a.tmps[17]? = some (.pointer (some ⟨fb, 0, none⟩)) := flow_dep hdep 1 17 (by kernel_rfl) rfl
              clear hout hdep
              refine op_list (by rfl) ?_
              go_wp2
              exact withK_intro ⟨_, rfl, Below.refl _ _, HR.out, rfl⟩
            · have HR := Lib.hid hR
              clear hR
              have e5 := hout 5 (by decide)
              clear hout hdep
              refine op_list (by rfl) ?_
              go_wp2
              exact withK_intro ⟨_, rfl, Below.refl _ _, HR.out, rfl⟩
            · have HR := Lib.hid hR
              clear hR
              have e19 : a.tmps[19]? = some (.pointer (some ⟨bx, 1, none⟩)) := flow_dep hdep 3 19 (by kernel_rfl) rfl
              have b1 := cellB' HR HB1.out
              clear hout hdep
              refine op_list (by rfl) ?_
              go_wp2
              exact withK_intro ⟨_, rfl, Below.refl _ _, HR.out, rfl⟩
          case hl5 =>
            intro vs wx hR hφ
            have HR := Lib.hid hR
            clear hR
            rw [fill_congr _ [16, 17, 18, 19, 20] vs (fun j => ([.pointer (some ⟨fb, 0, none⟩), .pointer (some ⟨fb, 0, none⟩), .pointer (some ⟨fb, 4, none⟩), .pointer (some ⟨bx, 1, none⟩), .string s] : List Value).getD j undef) (fun j hj => hφ j hj)]
            clear hφ vs
            refine op_list (by rfl) ?_
            simp only [fill, fillA, List.getD_cons_zero, List.getD_cons_succ, Nat.reduceAdd]
            have HN1 : Hid (n0 ≤ wx.heap.size) := Nat.le_trans HNR.out (Nat.le_trans HK1.out.size HR.out.size)
            go_wp2_with (go_at_call 26; refine (fadd2 n0 fb _ st1 s HSS.out _ (HFD.out.stay HR.out) HN1.out HV3.out).mono ?_; rintro e w4 ⟨rfl, hk, hf⟩; have HK4 : Hid (Fk n0 fb wr w4) := HK1.out.trans ((Fk.of_below (Nat.le_trans HNR.out HK1.out.size) HR.out).trans hk); have HF4 := Lib.hid hf; have HX4 := Lib.hid (hk.kept bx _ ((HR.out.block bx (lt_of_heap HBX0.out)).trans HBX0.out) HNE.out (fun cs fr e => by injection e with _ h _; exact absurd h (by decide)) (fun es c e => by cases e)); clear hk hf)
            refine withK_intro ?_
            have HB4 := Lib.hid (cell_of_heap HX4.out 1)
            go_upto_region 6 with fail
            refine region_flow rfl 5 rfl (by decide +kernel) [22, 23, 24, 25, 26] (by decide +kernel) rfl (by decide) (by simp) (fun w w' => Below w.heap.size w w') (fun w => Below w4.heap.size w4 w)
              (fun j v _ => v = ([.pointer (some ⟨fb, 0, none⟩), .pointer (some ⟨fb, 0, none⟩), .pointer (some ⟨fb, 2, none⟩), .pointer (some ⟨bx, 1, none⟩), .string s] : List Value).getD j undef) (fun _ _ _ _ _ h => h) ?hr6 ?hs6 ?hl6
            case hs6 =>
              intro ix hix a wx hR hout hdep
              have hix' : ix = 0 ∨ ix = 1 ∨ ix = 2 ∨ ix = 3 ∨ ix = 4 := by omega
              rcases hix' with rfl | rfl | rfl | rfl | rfl
              · have HR := Lib.hid hR
                clear hR
                have e0 := hout 0 (by decide)
                clear hout hdep
                refine op_list (by rfl) ?_
                go_wp2
                exact withK_intro ⟨_, rfl, Below.refl _ _, HR.out, rfl⟩
              · have HR := Lib.hid hR
                clear hR
                have e22 : a.tmps[22]? = some (.pointer (some ⟨fb, 0, none⟩)) := flow_dep hdep 0 22 (by kernel_rfl) rfl
                clear hout hdep
                refine op_list (by rfl) ?_
                go_wp2
                exact withK_intro ⟨_, rfl, Below.refl _ _, HR.out, rfl⟩
              · have HR := Lib.hid hR
                clear hR
                have e23 : a.tmps[23]? = some (.pointer (some ⟨fb, 0, none⟩)) := flow_dep hdep 1 23 (by kernel_rfl) rfl
                clear hout hdep
                refine op_list (by rfl) ?_
                go_wp2
                exact withK_intro ⟨_, rfl, Below.refl _ _, HR.out, rfl⟩
              · have HR := Lib.hid hR
                clear hR
                have e5 := hout 5 (by decide)
                clear hout hdep
                refine op_list (by rfl) ?_
                go_wp2
                exact withK_intro ⟨_, rfl, Below.refl _ _, HR.out, rfl⟩
              · have HR := Lib.hid hR
                clear hR
                have e25 : a.tmps[25]? = some (.pointer (some ⟨bx, 1, none⟩)) := flow_dep hdep 3 25 (by kernel_rfl) rfl
                have b1 := cellB' HR HB4.out
                clear hout hdep
                refine op_list (by rfl) ?_
                go_wp2
                exact withK_intro ⟨_, rfl, Below.refl _ _, HR.out, rfl⟩
            case hl6 =>
              intro vs wx hR hφ
              have HR := Lib.hid hR
              clear hR
              rw [fill_congr _ [22, 23, 24, 25, 26] vs (fun j => ([.pointer (some ⟨fb, 0, none⟩), .pointer (some ⟨fb, 0, none⟩), .pointer (some ⟨fb, 2, none⟩), .pointer (some ⟨bx, 1, none⟩), .string s] : List Value).getD j undef) (fun j hj => hφ j hj)]
              clear hφ vs
              refine op_list (by rfl) ?_
              simp only [fill, fillA, List.getD_cons_zero, List.getD_cons_succ, Nat.reduceAdd]
              have HN1 : Hid (n0 ≤ wx.heap.size) := Nat.le_trans HNR.out (Nat.le_trans HK4.out.size HR.out.size)
              go_wp2_with (go_at_call 26; refine (fadd1 n0 fb _ { st1 with made := addL st1.made s } s HSS.out _ (HF4.out.stay HR.out) HN1.out HV2.out).mono ?_; rintro e w6 ⟨rfl, hk, hf⟩; have HK6 : Hid (Fk n0 fb wr w6) := HK4.out.trans ((Fk.of_below (Nat.le_trans HNR.out HK4.out.size) HR.out).trans hk); have HF6 := Lib.hid hf; have HX6 := Lib.hid (hk.kept bx _ ((HR.out.block bx (lt_of_heap HX4.out)).trans HX4.out) HNE.out (fun cs fr e => by injection e with _ h _; exact absurd h (by decide)) (fun es c e => by cases e)); clear hk hf)
              refine withK_intro ?_
              have x3 := cell_of_heap HX6.out 3
              go_wp2_with fail
              refine (HC1.out _ (HWB.out.trans (HK6.out.below.mono h0)) HF6.out (Nat.le_trans HNR.out HK6.out.size)).mono ?_
              rintro e w7 ⟨rfl, hk, hf⟩
              have HX7 := Lib.hid (hk.kept bx _ HX6.out HNE.out (fun cs fr e => by injection e with _ h _; exact absurd h (by decide)) (fun es c e => by cases e))
              have HK7 : Hid (Fk n0 fb wr w7) := HK6.out.trans hk
              have HF7 := Lib.hid hf
              clear hk hf
              have x4 := cell_of_heap HX7.out 4
              go_wp2_with fail
              refine (HC2.out _ (HWB.out.trans (HK7.out.below.mono h0)) HF7.out (Nat.le_trans HNR.out HK7.out.size)).mono ?_
              rintro e w8 ⟨rfl, hk, hf⟩
              have HX8 := Lib.hid (hk.kept bx _ HX7.out HNE.out (fun cs fr e => by injection e with _ h _; exact absurd h (by decide)) (fun es c e => by cases e))
              have HK8 : Hid (Fk n0 fb wr w8) := HK7.out.trans hk
              have HF8 := Lib.hid hf
              clear hk hf
              have x5 := cell_of_heap HX8.out 5
              go_wp2_with fail
              refine (HC3.out _ (HWB.out.trans (HK8.out.below.mono h0)) HF8.out (Nat.le_trans HNR.out HK8.out.size)).mono ?_
              rintro e w9 ⟨rfl, hk, hf⟩
              have HX9 := Lib.hid (hk.kept bx _ HX8.out HNE.out (fun cs fr e => by injection e with _ h _; exact absurd h (by decide)) (fun es c e => by cases e))
              have HK9 : Hid (Fk n0 fb wr w9) := HK8.out.trans hk
              have HF9 := Lib.hid hf
              clear hk hf
              go_wp2_with fail
              go_roundw
              case rel => exact ⟨k + 1, by go_num, by omega, HK.out.trans HK9.out, HF9.out⟩
              case measure => simp [intOf]; omega
            case hr6 => exact (Below.refl _ _).drew
          case hr5 => exact (Below.refl _ _).drew
        · as_aux_lemma =>
          have hown : ST.own 2 s st1 = { st1 with arrays := addL st1.arrays s } := by unfold ST.own; simp
          rw [hown] at HC1
          clear hown
          go_upto_region 8 with fail
          obtain ⟨W1, hW1⟩ : ∃ z, (wr.alloc (.cells #[.int .i64 2, .string s, .int .i64 n, .slice pa pl pc, .slice ba bl bc, .slice ea el ec] 54)) = z := ⟨_, rfl⟩
          rw [hW1] at HBL HBX0 HFD ⊢
          generalize hbx : wr.heap.size = bx at HBX0 ⊢
          have HNE : Hid (bx ≠ fb) := by show bx ≠ fb; have := HFL.out; omega
          have HB1 := Lib.hid (cell_of_heap HBX0.out 1)
          have HK1 : Hid (Fk n0 fb wr W1) := Fk.of_below HNR.out HBL.out
          clear hW1 hbx
          refine region_flow rfl 5 rfl (by decide +kernel) [30, 31, 32, 33, 34] (by decide +kernel) rfl (by decide) (by simp) (fun w w' => Below w.heap.size w w') (fun w => Below W1.heap.size W1 w)
            (fun j v _ => v = ([.pointer (some ⟨fb, 0, none⟩), .pointer (some ⟨fb, 0, none⟩), .pointer (some ⟨fb, 2, none⟩), .pointer (some ⟨bx, 1, none⟩), .string s] : List Value).getD j undef) (fun _ _ _ _ _ h => h) ?hr8 ?hs8 ?hl8
          case hs8 =>
            intro ix hix a wx hR hout hdep
            have hix' : ix = 0 ∨ ix = 1 ∨ ix = 2 ∨ ix = 3 ∨ ix = 4 := by omega
            rcases hix' with rfl | rfl | rfl | rfl | rfl
            · have HR := Lib.hid hR
              clear hR
              have e0 := hout 0 (by decide)
              clear hout hdep
              refine op_list (by rfl) ?_
              go_wp2
              exact withK_intro ⟨_, rfl, Below.refl _ _, HR.out, rfl⟩
            · have HR := Lib.hid hR
              clear hR
              have e30 : a.tmps[30]? = some (.pointer (some ⟨fb, 0, none⟩)) := flow_dep hdep 0 30 (by kernel_rfl) rfl
              clear hout hdep
              refine op_list (by rfl) ?_
              go_wp2
              exact withK_intro ⟨_, rfl, Below.refl _ _, HR.out, rfl⟩
            · have HR := Lib.hid hR
              clear hR
              have e31 : a.tmps[31]? = some (.pointer (some ⟨fb, 0, none⟩)) := flow_dep hdep 1 31 (by kernel_rfl) rfl
              clear hout hdep
              refine op_list (by rfl) ?_
              go_wp2
              exact withK_intro ⟨_, rfl, Below.refl _ _, HR.out, rfl⟩
            · have HR := Lib.hid hR
              clear hR
              have e5 := hout 5 (by decide)
              clear hout hdep
              refine op_list (by rfl) ?_
              go_wp2
              exact withK_intro ⟨_, rfl, Below.refl _ _, HR.out, rfl⟩
            · have HR := Lib.hid hR
              clear hR
              have e33 : a.tmps[33]? = some (.pointer (some ⟨bx, 1, none⟩)) := flow_dep hdep 3 33 (by kernel_rfl) rfl
              have b1 := cellB' HR HB1.out
              clear hout hdep
              refine op_list (by rfl) ?_
              go_wp2
              exact withK_intro ⟨_, rfl, Below.refl _ _, HR.out, rfl⟩
          case hl8 =>
            intro vs wx hR hφ
            have HR := Lib.hid hR
            clear hR
            rw [fill_congr _ [30, 31, 32, 33, 34] vs (fun j => ([.pointer (some ⟨fb, 0, none⟩), .pointer (some ⟨fb, 0, none⟩), .pointer (some ⟨fb, 2, none⟩), .pointer (some ⟨bx, 1, none⟩), .string s] : List Value).getD j undef) (fun j hj => hφ j hj)]
            clear hφ vs
            refine op_list (by rfl) ?_
            simp only [fill, fillA, List.getD_cons_zero, List.getD_cons_succ, Nat.reduceAdd]
            have HN1 : Hid (n0 ≤ wx.heap.size) := Nat.le_trans HNR.out (Nat.le_trans HK1.out.size HR.out.size)
            go_wp2_with (go_at_call 26; refine (fadd1 n0 fb _ st1 s HSS.out _ (HFD.out.stay HR.out) HN1.out HV2.out).mono ?_; rintro e w6 ⟨rfl, hk, hf⟩; have HK6 : Hid (Fk n0 fb wr w6) := HK1.out.trans ((Fk.of_below (Nat.le_trans HNR.out HK1.out.size) HR.out).trans hk); have HF6 := Lib.hid hf; have HX6 := Lib.hid (hk.kept bx _ ((HR.out.block bx (lt_of_heap HBX0.out)).trans HBX0.out) HNE.out (fun cs fr e => by injection e with _ h _; exact absurd h (by decide)) (fun es c e => by cases e)); clear hk hf)
            refine withK_intro ?_
            have x3 := cell_of_heap HX6.out 3
            go_wp2_with fail
            refine (HC1.out _ (HWB.out.trans (HK6.out.below.mono h0)) HF6.out (Nat.le_trans HNR.out HK6.out.size)).mono ?_
            rintro e w7 ⟨rfl, hk, hf⟩
            have HX7 := Lib.hid (hk.kept bx _ HX6.out HNE.out (fun cs fr e => by injection e with _ h _; exact absurd h (by decide)) (fun es c e => by cases e))
            have HK7 : Hid (Fk n0 fb wr w7) := HK6.out.trans hk
            have HF7 := Lib.hid hf
            clear hk hf
            have x4 := cell_of_heap HX7.out 4
            go_wp2_with fail
            refine (HC2.out _ (HWB.out.trans (HK7.out.below.mono h0)) HF7.out (Nat.le_trans HNR.out HK7.out.size)).mono ?_
            rintro e w8 ⟨rfl, hk, hf⟩
            have HX8 := Lib.hid (hk.kept bx _ HX7.out HNE.out (fun cs fr e => by injection e with _ h _; exact absurd h (by decide)) (fun es c e => by cases e))
            have HK8 : Hid (Fk n0 fb wr w8) := HK7.out.trans hk
            have HF8 := Lib.hid hf
            clear hk hf
            have x5 := cell_of_heap HX8.out 5
            go_wp2_with fail
            refine (HC3.out _ (HWB.out.trans (HK8.out.below.mono h0)) HF8.out (Nat.le_trans HNR.out HK8.out.size)).mono ?_
            rintro e w9 ⟨rfl, hk, hf⟩
            have HX9 := Lib.hid (hk.kept bx _ HX8.out HNE.out (fun cs fr e => by injection e with _ h _; exact absurd h (by decide)) (fun es c e => by cases e))
            have HK9 : Hid (Fk n0 fb wr w9) := HK8.out.trans hk
            have HF9 := Lib.hid hf
            clear hk hf
            go_wp2_with fail
            go_roundw
            case rel => exact ⟨k + 1, by go_num, by omega, HK.out.trans HK9.out, HF9.out⟩
            case measure => simp [intOf]; omega
          case hr8 => exact (Below.refl _ _).drew
        · as_aux_lemma =>
          have hown : ST.own 1 s st1 = { st1 with vars := addL st1.vars s } := by unfold ST.own; simp
          rw [hown] at HC1
          clear hown
          go_upto_region 11 with fail
          obtain ⟨W1, hW1⟩ : ∃ z, (wr.alloc (.cells #[.int .i64 1, .string s, .int .i64 n, .slice pa pl pc, .slice ba bl bc, .slice ea el ec] 54)) = z := ⟨_, rfl⟩
          rw [hW1] at HBL HBX0 HFD ⊢
          generalize hbx : wr.heap.size = bx at HBX0 ⊢
          have HNE : Hid (bx ≠ fb) := by show bx ≠ fb; have := HFL.out; omega
          have HB1 := Lib.hid (cell_of_heap HBX0.out 1)
          have HK1 : Hid (Fk n0 fb wr W1) := Fk.of_below HNR.out HBL.out
          clear hW1 hbx
          refine region_flow rfl 5 rfl (by decide +kernel) [39, 40, 41, 42, 43] (by decide +kernel) rfl (by decide) (by simp) (fun w w' => Below w.heap.size w w') (fun w => Below W1.heap.size W1 w)
            (fun j v _ => v = ([.pointer (some ⟨fb, 0, none⟩), .pointer (some ⟨fb, 0, none⟩), .pointer (some ⟨fb, 0, none⟩), .pointer (some ⟨bx, 1, none⟩), .string s] : List Value).getD j undef) (fun _ _ _ _ _ h => h) ?hr11 ?hs11 ?hl11
          case hs11 =>
            intro ix hix a wx hR hout hdep
            have hix' : ix = 0 ∨ ix = 1 ∨ ix = 2 ∨ ix = 3 ∨ ix = 4 := by omega
            rcases hix' with rfl | rfl | rfl | rfl | rfl
            · have HR := Lib.hid hR
              clear hR
              have e0 := hout 0 (by decide)
              clear hout hdep
              refine op_list (by rfl) ?_
              go_wp2
              exact withK_intro ⟨_, rfl, Below.refl _ _, HR.out, rfl⟩
            · have HR := Lib.hid hR
              clear hR
              have e39 : a.tmps[39]? = some (.pointer (some ⟨fb, 0, none⟩)) := flow_dep hdep 0 39 (by kernel_rfl) rfl
              clear hout hdep
              refine op_list (by rfl) ?_
              go_wp2
              exact withK_intro ⟨_, rfl, Below.refl _ _, HR.out, rfl⟩
            · have HR := Lib.hid hR
              clear hR
              have e40 : a.tmps[40]? = some (.pointer (some ⟨fb, 0, none⟩)) := flow_dep hdep 1 40 (by kernel_rfl) rfl
              clear hout hdep
              refine op_list (by rfl) ?_
              go_wp2
              exact withK_intro ⟨_, rfl, Below.refl _ _, HR.out, rfl⟩
            · have HR := Lib.hid hR
              clear hR
              have e5 := hout 5 (by decide)
              clear hout hdep
              refine op_list (by rfl) ?_
              go_wp2
              exact withK_intro ⟨_, rfl, Below.refl _ _, HR.out, rfl⟩
            · have HR := Lib.hid hR
              clear hR
              have e42 : a.tmps[42]? = some (.pointer (some ⟨bx, 1, none⟩)) := flow_dep hdep 3 42 (by kernel_rfl) rfl
              have b1 := cellB' HR HB1.out
              clear hout hdep
              refine op_list (by rfl) ?_
              go_wp2
              exact withK_intro ⟨_, rfl, Below.refl _ _, HR.out, rfl⟩
          case hl11 =>
            intro vs wx hR hφ
            have HR := Lib.hid hR
            clear hR
            rw [fill_congr _ [39, 40, 41, 42, 43] vs (fun j => ([.pointer (some ⟨fb, 0, none⟩), .pointer (some ⟨fb, 0, none⟩), .pointer (some ⟨fb, 0, none⟩), .pointer (some ⟨bx, 1, none⟩), .string s] : List Value).getD j undef) (fun j hj => hφ j hj)]
            clear hφ vs
            refine op_list (by rfl) ?_
            simp only [fill, fillA, List.getD_cons_zero, List.getD_cons_succ, Nat.reduceAdd]
            have HN1 : Hid (n0 ≤ wx.heap.size) := Nat.le_trans HNR.out (Nat.le_trans HK1.out.size HR.out.size)
            go_wp2_with (go_at_call 26; refine (fadd0 n0 fb _ st1 s HSS.out _ (HFD.out.stay HR.out) HN1.out HV1.out).mono ?_; rintro e w6 ⟨rfl, hk, hf⟩; have HK6 : Hid (Fk n0 fb wr w6) := HK1.out.trans ((Fk.of_below (Nat.le_trans HNR.out HK1.out.size) HR.out).trans hk); have HF6 := Lib.hid hf; have HX6 := Lib.hid (hk.kept bx _ ((HR.out.block bx (lt_of_heap HBX0.out)).trans HBX0.out) HNE.out (fun cs fr e => by injection e with _ h _; exact absurd h (by decide)) (fun es c e => by cases e)); clear hk hf)
            refine withK_intro ?_
            have x3 := cell_of_heap HX6.out 3
            go_wp2_with fail
            refine (HC1.out _ (HWB.out.trans (HK6.out.below.mono h0)) HF6.out (Nat.le_trans HNR.out HK6.out.size)).mono ?_
            rintro e w7 ⟨rfl, hk, hf⟩
            have HX7 := Lib.hid (hk.kept bx _ HX6.out HNE.out (fun cs fr e => by injection e with _ h _; exact absurd h (by decide)) (fun es c e => by cases e))
            have HK7 : Hid (Fk n0 fb wr w7) := HK6.out.trans hk
            have HF7 := Lib.hid hf
            clear hk hf
            have x4 := cell_of_heap HX7.out 4
            go_wp2_with fail
            refine (HC2.out _ (HWB.out.trans (HK7.out.below.mono h0)) HF7.out (Nat.le_trans HNR.out HK7.out.size)).mono ?_
            rintro e w8 ⟨rfl, hk, hf⟩
            have HX8 := Lib.hid (hk.kept bx _ HX7.out HNE.out (fun cs fr e => by injection e with _ h _; exact absurd h (by decide)) (fun es c e => by cases e))
            have HK8 : Hid (Fk n0 fb wr w8) := HK7.out.trans hk
            have HF8 := Lib.hid hf
            clear hk hf
            have x5 := cell_of_heap HX8.out 5
            go_wp2_with fail
            refine (HC3.out _ (HWB.out.trans (HK8.out.below.mono h0)) HF8.out (Nat.le_trans HNR.out HK8.out.size)).mono ?_
            rintro e w9 ⟨rfl, hk, hf⟩
            have HX9 := Lib.hid (hk.kept bx _ HX8.out HNE.out (fun cs fr e => by injection e with _ h _; exact absurd h (by decide)) (fun es c e => by cases e))
            have HK9 : Hid (Fk n0 fb wr w9) := HK8.out.trans hk
            have HF9 := Lib.hid hf
            clear hk hf
            go_wp2_with fail
            go_roundw
            case rel => exact ⟨k + 1, by go_num, by omega, HK.out.trans HK9.out, HF9.out⟩
            case measure => simp [intOf]; omega
          case hr11 => exact (Below.refl _ _).drew
        · as_aux_lemma =>
          have hown : ST.own 4 s st1 = { st1 with vars := addL st1.vars s } := by unfold ST.own; simp
          rw [hown] at HC1
          clear hown
          go_upto_region 11 with fail
          obtain ⟨W1, hW1⟩ : ∃ z, (wr.alloc (.cells #[.int .i64 4, .string s, .int .i64 n, .slice pa pl pc, .slice ba bl bc, .slice ea el ec] 54)) = z := ⟨_, rfl⟩
          rw [hW1] at HBL HBX0 HFD ⊢
          generalize hbx : wr.heap.size = bx at HBX0 ⊢
          have HNE : Hid (bx ≠ fb) := by show bx ≠ fb; have := HFL.out; omega
          have HB1 := Lib.hid (cell_of_heap HBX0.out 1)
          have HK1 : Hid (Fk n0 fb wr W1) := Fk.of_below HNR.out HBL.out
          clear hW1 hbx
          refine region_flow rfl 5 rfl (by decide +kernel) [39, 40, 41, 42, 43] (by decide +kernel) rfl (by decide) (by simp) (fun w w' => Below w.heap.size w w') (fun w => Below W1.heap.size W1 w)
            (fun j v _ => v = ([.pointer (some ⟨fb, 0, none⟩), .pointer (some ⟨fb, 0, none⟩), .pointer (some ⟨fb, 0, none⟩), .pointer (some ⟨bx, 1, none⟩), .string s] : List Value).getD j undef) (fun _ _ _ _ _ h => h) ?hr11 ?hs11 ?hl11
          case hs11 =>
            intro ix hix a wx hR hout hdep
            have hix' : ix = 0 ∨ ix = 1 ∨ ix = 2 ∨ ix = 3 ∨ ix = 4 := by omega
            rcases hix' with rfl | rfl | rfl | rfl | rfl
            · have HR := Lib.hid hR
              clear hR
              have e0 := hout 0 (by decide)
              clear hout hdep
              refine op_list (by rfl) ?_
              go_wp2
              exact withK_intro ⟨_, rfl, Below.refl _ _, HR.out, rfl⟩
            · have HR := Lib.hid hR
              clear hR
              have e39 : a.tmps[39]? = some (.pointer (some ⟨fb, 0, none⟩)) := flow_dep hdep 0 39 (by kernel_rfl) rfl
              clear hout hdep
              refine op_list (by rfl) ?_
              go_wp2
              exact withK_intro ⟨_, rfl, Below.refl _ _, HR.out, rfl⟩
            · have HR := Lib.hid hR
              clear hR
              have e40 : a.tmps[40]? = some (.pointer (some ⟨fb, 0, none⟩)) := flow_dep hdep 1 40 (by kernel_rfl) rfl
              clear hout hdep
              refine op_list (by rfl) ?_
              go_wp2
              exact withK_intro ⟨_, rfl, Below.refl _ _, HR.out, rfl⟩
            · have HR := Lib.hid hR
              clear hR
              have e5 := hout 5 (by decide)
              clear hout hdep
              refine op_list (by rfl) ?_
              go_wp2
              exact withK_intro ⟨_, rfl, Below.refl _ _, HR.out, rfl⟩
            · have HR := Lib.hid hR
              clear hR
              have e42 : a.tmps[42]? = some (.pointer (some ⟨bx, 1, none⟩)) := flow_dep hdep 3 42 (by kernel_rfl) rfl
              have b1 := cellB' HR HB1.out
              clear hout hdep
              refine op_list (by rfl) ?_
              go_wp2
              exact withK_intro ⟨_, rfl, Below.refl _ _, HR.out, rfl⟩
          case hl11 =>
            intro vs wx hR hφ
            have HR := Lib.hid hR
            clear hR
            rw [fill_congr _ [39, 40, 41, 42, 43] vs (fun j => ([.pointer (some ⟨fb, 0, none⟩), .pointer (some ⟨fb, 0, none⟩), .pointer (some ⟨fb, 0, none⟩), .pointer (some ⟨bx, 1, none⟩), .string s] : List Value).getD j undef) (fun j hj => hφ j hj)]
            clear hφ vs
            refine op_list (by rfl) ?_
            simp only [fill, fillA, List.getD_cons_zero, List.getD_cons_succ, Nat.reduceAdd]
            have HN1 : Hid (n0 ≤ wx.heap.size) := Nat.le_trans HNR.out (Nat.le_trans HK1.out.size HR.out.size)
            go_wp2_with (go_at_call 26; refine (fadd0 n0 fb _ st1 s HSS.out _ (HFD.out.stay HR.out) HN1.out HV1.out).mono ?_; rintro e w6 ⟨rfl, hk, hf⟩; have HK6 : Hid (Fk n0 fb wr w6) := HK1.out.trans ((Fk.of_below (Nat.le_trans HNR.out HK1.out.size) HR.out).trans hk); have HF6 := Lib.hid hf; have HX6 := Lib.hid (hk.kept bx _ ((HR.out.block bx (lt_of_heap HBX0.out)).trans HBX0.out) HNE.out (fun cs fr e => by injection e with _ h _; exact absurd h (by decide)) (fun es c e => by cases e)); clear hk hf)
            refine withK_intro ?_
            have x3 := cell_of_heap HX6.out 3
            go_wp2_with fail
            refine (HC1.out _ (HWB.out.trans (HK6.out.below.mono h0)) HF6.out (Nat.le_trans HNR.out HK6.out.size)).mono ?_
            rintro e w7 ⟨rfl, hk, hf⟩
            have HX7 := Lib.hid (hk.kept bx _ HX6.out HNE.out (fun cs fr e => by injection e with _ h _; exact absurd h (by decide)) (fun es c e => by cases e))
            have HK7 : Hid (Fk n0 fb wr w7) := HK6.out.trans hk
            have HF7 := Lib.hid hf
            clear hk hf
            have x4 := cell_of_heap HX7.out 4
            go_wp2_with fail
            refine (HC2.out _ (HWB.out.trans (HK7.out.below.mono h0)) HF7.out (Nat.le_trans HNR.out HK7.out.size)).mono ?_
            rintro e w8 ⟨rfl, hk, hf⟩
            have HX8 := Lib.hid (hk.kept bx _ HX7.out HNE.out (fun cs fr e => by injection e with _ h _; exact absurd h (by decide)) (fun es c e => by cases e))
            have HK8 : Hid (Fk n0 fb wr w8) := HK7.out.trans hk
            have HF8 := Lib.hid hf
            clear hk hf
            have x5 := cell_of_heap HX8.out 5
            go_wp2_with fail
            refine (HC3.out _ (HWB.out.trans (HK8.out.below.mono h0)) HF8.out (Nat.le_trans HNR.out HK8.out.size)).mono ?_
            rintro e w9 ⟨rfl, hk, hf⟩
            have HX9 := Lib.hid (hk.kept bx _ HX8.out HNE.out (fun cs fr e => by injection e with _ h _; exact absurd h (by decide)) (fun es c e => by cases e))
            have HK9 : Hid (Fk n0 fb wr w9) := HK8.out.trans hk
            have HF9 := Lib.hid hf
            clear hk hf
            go_wp2_with fail
            go_roundw
            case rel => exact ⟨k + 1, by go_num, by omega, HK.out.trans HK9.out, HF9.out⟩
            case measure => simp [intOf]; omega
          case hr11 => exact (Below.refl _ _).drew
        · as_aux_lemma =>
          have hown : ST.own o s st1 = st1 := by
            unfold ST.own
            rw [if_neg (by simpa using g1'), if_neg (by simpa using g2'), if_neg (by rintro (h | h); exact absurd h (by simpa using g3'); exact absurd h (by simpa using g4'))]
          rw [hown] at HC1
          clear hown
          have HK6 : Hid (Fk n0 fb wr (wr.alloc (.cells #[.int .i64 o, .string s, .int .i64 n, .slice pa pl pc, .slice ba bl bc, .slice ea el ec] 54))) := Fk.of_below HNR.out HBL.out
          have HF6 := HFD
          have HX6 := HBX0
          have HNE : Hid (wr.heap.size ≠ fb) := by show wr.heap.size ≠ fb; have := HFL.out; omega
          have x3 := cell_of_heap HBX0.out 3
          go_wp2_with fail
          refine (HC1.out _ (HWB.out.trans (HK6.out.below.mono h0)) HF6.out (Nat.le_trans HNR.out HK6.out.size)).mono ?_
          rintro e w7 ⟨rfl, hk, hf⟩
          have HX7 := Lib.hid (hk.kept wr.heap.size _ HX6.out HNE.out (fun cs fr e => by injection e with _ h _; exact absurd h (by decide)) (fun es c e => by cases e))
          have HK7 : Hid (Fk n0 fb wr w7) := HK6.out.trans hk
          have HF7 := Lib.hid hf
          clear hk hf
          have x4 := cell_of_heap HX7.out 4
          go_wp2_with fail
          refine (HC2.out _ (HWB.out.trans (HK7.out.below.mono h0)) HF7.out (Nat.le_trans HNR.out HK7.out.size)).mono ?_
          rintro e w8 ⟨rfl, hk, hf⟩
          have HX8 := Lib.hid (hk.kept wr.heap.size _ HX7.out HNE.out (fun cs fr e => by injection e with _ h _; exact absurd h (by decide)) (fun es c e => by cases e))
          have HK8 : Hid (Fk n0 fb wr w8) := HK7.out.trans hk
          have HF8 := Lib.hid hf
          clear hk hf
          have x5 := cell_of_heap HX8.out 5
          go_wp2_with fail
          refine (HC3.out _ (HWB.out.trans (HK8.out.below.mono h0)) HF8.out (Nat.le_trans HNR.out HK8.out.size)).mono ?_
          rintro e w9 ⟨rfl, hk, hf⟩
          have HX9 := Lib.hid (hk.kept wr.heap.size _ HX8.out HNE.out (fun cs fr e => by injection e with _ h _; exact absurd h (by decide)) (fun es c e => by cases e))
          have HK9 : Hid (Fk n0 fb wr w9) := HK8.out.trans hk
          have HF9 := Lib.hid hf
          clear hk hf
          go_wp2_with fail
          go_roundw
          case rel => exact ⟨k + 1, by go_num, by omega, HK.out.trans HK9.out, HF9.out⟩
          case measure => simp [intOf]; omega
      · obtain rfl : k = l.length := by omega
        have hr := HR0.out
        rw [List.take_length] at hr
        have HR2 := Lib.hid hr
        clear hr
        go_wp2
        go_end0
        exact ⟨rfl, HK.out, HR2.out⟩
end Go.Proofs.YthjjcmmonjajhaaGreatDoor
