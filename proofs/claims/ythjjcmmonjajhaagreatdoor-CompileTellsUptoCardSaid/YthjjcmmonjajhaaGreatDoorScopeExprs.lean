/- The names of expressions are gathered. -/
import Derived.Test.YthjjcmmonjajhaaGreatDoorScopes
import Derived.Test.YthjjcmmonjajhaaGreatDoorFlows
namespace Go.Proofs.YthjjcmmonjajhaaGreatDoor
open Go.RowKit Go.Sort Go.Maps
set_option linter.unusedVariables false

theorem cellB' {w1 W : World} {b o : Nat} {v : Value} (h : Hid (Below w1.heap.size w1 W)) (hc : w1.cell? ⟨b, o, none⟩ = some v) : W.cell? ⟨b, o, none⟩ = some v := (h.out.cell (p := ⟨b, o, none⟩) (lt_of_cell hc)).trans hc
theorem ESl.shape0' {w : World} {v : Value} {l : List ET} (h : ESl w v l) : ∃ a cap, v = .slice a l.length cap ∧ l.length ≤ cap ∧ cap ≤ 9223372036854775807 := by
  cases h with | mk a b off cap l f ha hc hm _ _ => exact ⟨a, cap, rfl, hc, hm⟩
theorem Fd.cells {n0 : Nat} {W : World} {fb : Nat} {cv : Value} {st : FS} (h : Fd n0 W fb cv st) : W.cell? ⟨fb, 6, none⟩ = some (.bool st.wrong) ∧ W.cell? ⟨fb, 7, none⟩ = some cv ∧ W.frozen? ⟨fb, 6, none⟩ = false := by
  obtain ⟨_, _, _, _, _, _, _, hb, _⟩ := h
  exact ⟨cell_of_heap hb 6, cell_of_heap hb 7, free_of_heap hb 6⟩
theorem Fd.set {n0 : Nat} {W : World} {fb : Nat} {cv : Value} {st : FS} (h : Fd n0 W fb cv st) (b : Bool) : Fd n0 (W.setCell ⟨fb, 6, none⟩ (.bool b)) fb cv { st with wrong := b } := by
  obtain ⟨hg, l0, m0, l1, m1, l2, m2, hb, ⟨n1, n2, n3⟩, ha⟩ := h
  have hs : W.heap.size ≤ (W.setCell ⟨fb, 6, none⟩ (.bool b)).heap.size := by simp [World.setCell]
  have key : ∀ {lv mv : Value} {l : List ByteArray}, Nm n0 W lv mv l → Nm n0 (W.setCell ⟨fb, 6, none⟩ (.bool b)) lv mv l := fun hn => hn.stay hs fun k o hk h => by
    rw [Below.heap_setCell _ _ _ k (fun e => ?_)]
    · exact hk
    · have e' : k = fb := e
      subst e'
      rcases h with h | h
      · obtain ⟨cs, fr, h1⟩ := hn.row_at h.symm
        rw [hb] at h1; injection h1 with h1; injection h1 with _ h2 _; exact absurd h2 (by decide)
      · obtain ⟨es, c, h1⟩ := hn.map_at h.symm
        rw [hb] at h1; cases h1
  exact ⟨hg, l0, m0, l1, m1, l2, m2, heap_set hb 6 _, ⟨key n1, key n2, key n3⟩, ha⟩
theorem Fk.set {n0 fb : Nat} {W : World} (hg : n0 ≤ fb) (b : Bool) : Fk n0 fb W (W.setCell ⟨fb, 6, none⟩ (.bool b)) :=
  ⟨(Below.refl _ _).setCell (p := ⟨fb, 6, none⟩) hg _, fun k o hk hne _ _ => by rw [Below.heap_setCell _ _ _ k hne]; exact hk⟩
mutual
theorem ET.nodes_len' : ∀ (e : ET) (d d' : Int), (e.nodes d).length = (e.nodes d').length
  | .mk o n s l, d, d' => by simp only [ET.nodes, List.length_cons]; rw [ET.nodesL_len' l _ (wrap64 (d' + 1))]
theorem ET.nodesL_len' : ∀ (l : List ET) (d d' : Int), (ET.nodesL l d).length = (ET.nodesL l d').length
  | [], _, _ => rfl
  | e :: r, d, d' => by simp only [ET.nodesL, List.length_append]; rw [ET.nodes_len' e d d', ET.nodesL_len' r d d']
end
def clV (pb : Nat) : Value := .func (.func 25) #[] #[.pointer (some ⟨pb, 0, none⟩)]
theorem run_store_bool (w : World) (b j : Nat) (u v : Bool) (hc : w.cell? ⟨b, j, none⟩ = some (.bool u)) (hf : w.frozen? ⟨b, j, none⟩ = false) : (Instr.storeAt 4 (.pointer (some ⟨b, j, none⟩)) (.bool v)).run Tryz.prog w = .ok () (w.setCell ⟨b, j, none⟩ (.bool v)) := by
  have hi : (Tryz.prog.info? 4).map (·.size) = some 1 := by kernel_rfl
  cases hq : Tryz.prog.info? 4 with
  | none => simp [hq] at hi
  | some i =>
    have hs : i.size = 1 := by simpa [hq] using hi
    have key : (storeCells ⟨b, j, none⟩ [.bool v]).run Tryz.prog w = .ok () (w.setCell ⟨b, j, none⟩ (.bool v)) := by
      unfold storeCells
      have e : (⟨b, j, none⟩ : Addr).add 0 = ⟨b, j, none⟩ := by unfold Addr.add; split <;> simp_all
      simp [e, go_sem, hc, hf, storeCells]
    simp [Instr.storeAt, Instr.sureAddr, storeVar, sizeOf, typeInfo, hq, hs, Value.cells, Result.andThen, key]
theorem op_store {P : Program} {ops : Array Oper} {Q : Exit → Act → World → Prop} {K : Act → World → Prop} {i : Nat} {o : Oper} {a : Act} {w : World} (ho : ops[i]? = some o) (hg : o.guard = none) (hd : o.dst = none) (ty : TypeId) (x y : Operand) (hop : o.op = .store ty x y) (p : Addr) (v : Value)
    (hx : a.eval x = .pointer (some p)) (hy : a.eval y = v) (hrun : (Instr.storeAt ty (.pointer (some p)) v).run P w = .ok () (w.setCell p v)) (h : K a (w.setCell p v)) : wpOp P ops Q i K a w := by
  refine op_list ho ?_
  refine wpList_plain hg fun K' hK' => ?_
  unfold Oper.wp execOp
  simp only [hop, hx, hy, Sem.run_bind, hrun, Result.andThen_ok, Sem.run_pure]
  refine hK' _ _ ?_
  rw [hd]
  exact withK_intro h
theorem eval_fill (a : Act) (ds : List Nat) (vs : Nat → Value) (j k : Nat) (hn : ds.Nodup) (hlt : (ds.all fun k => decide (k < a.tmps.size)) = true) (h : ds[j]? = some k) : (fill a ds vs).eval (.tmp k) = vs j := by
  have hk : ∀ k ∈ ds, k < a.tmps.size := fun k hk => by simpa using List.all_eq_true.1 hlt k hk
  obtain ⟨h1, _, h3⟩ := fillA_at ds a.tmps vs 0 hn hk
  have h4 := h3 j k h
  have h5 : k < (fillA a.tmps ds vs 0).size := by rw [h1]; exact hk k (List.mem_of_getElem? h)
  show (fillA a.tmps ds vs 0).getD k undef = vs j
  rw [Array.getElem?_eq_getElem h5, Nat.zero_add] at h4
  simp [Array.getD, h5, Option.some.inj h4]
/-- What an expression does to the finder by itself. -/
def ET.own (fs : List FT) (o : Int) (s : ByteArray) (k : Nat) (st : FS) : FS := if o = 2 then { st with vars := addL st.vars s } else if o = 4 then { st with arrays := addL st.arrays s } else if o = 5 then { st with wrong := st.wrong || !callB fs s k } else st
theorem ET.gather_own (fs : List FT) (o n : Int) (s : ByteArray) (l : List ET) (st : FS) : ET.gather (callB fs) (.mk o n s l) st = ET.gatherL (callB fs) l (ET.own fs o s l.length st) := rfl
theorem ET.own_le (fs : List FT) (o : Int) (s : ByteArray) (m : Nat) {st : FS} {k : Nat} (h : st.le k) : (ET.own fs o s m st).le (k + 1) := by
  have h1 := addL_le st.vars s
  have h2 := addL_le st.arrays s
  obtain ⟨a, b, c⟩ := h
  unfold ET.own
  split
  · exact ⟨by simp only; omega, by simp only; omega, by simp only; omega⟩
  · split
    · exact ⟨by simp only; omega, by simp only; omega, by simp only; omega⟩
    · split
      · exact ⟨by simp only; omega, by simp only; omega, by simp only; omega⟩
      · exact ⟨by omega, by omega, by omega⟩

set_option maxHeartbeats 8000000 in
set_option maxRecDepth 1000000 in
theorem fexprs_in (w0 : World) {v : Value} {l : List ET} (h : ESl w0 v l) : ET.shL l = true → ∀ (n0 fb pb pm pn : Nat) (fs : List FT) (st : FS) (q : Nat) (h0 : w0.heap.size ≤ n0) (hp : PmAt w0 pb pm pn fs) (W : World) (hB : Below w0.heap.size w0 W) (hf : Fd n0 W fb (clV pb) st) (hn : n0 ≤ W.heap.size) (hq : st.le q) (hl : q + (ET.nodesL l 0).length ≤ 4194304),
    Calls Tryz.prog 54 #[.pointer (some ⟨fb, 0, none⟩), v] W fun e w' => e = .returned (.tuple #[]) ∧ Fk n0 fb W w' ∧ Fd n0 w' fb (clV pb) (ET.gatherL (callB fs) l st) := by
  induction h with
  | mk a b off cap l f ha hc hm hcell hsub ih =>
    intro hsh n0 fb pb pm pn fs st q h0 hp W hB hf hn hq hl
    have HA := Lib.hid ha
    have HC := Lib.hid hcell
    have HIH := Lib.hid ih
    have HSub := Lib.hid hsub
    have HSh := Lib.hid ((ET.shL_iff l).1 hsh)
    have HB0 := Lib.hid hB
    have HF := Lib.hid hf
    have HP := Lib.hid hp
    have HQ := Lib.hid hq
    have HL := Lib.hid hl
    have hm1 : cap ≤ 9223372036854775807 := hm
    clear ha hcell ih hsub hsh hB hf hp hq hm hl
    go_enter Tryz.func54, Tryz.ntmps54
    go_wp2
    go_loopw [8] (fun i wr => ∃ k : Nat, i = .int .i64 k ∧ k ≤ l.length ∧ Hid (Fk n0 fb W wr) ∧ Hid (Fd n0 wr fb (clV pb) (ET.gatherL (callB fs) (l.take k) st))) (fun i _ => l.length - (intOf i).toNat)
    case atStart => exact ⟨0, rfl, by omega, Fk.refl _ _ _, HF.out⟩
    case round =>
      obtain ⟨k, rfl, hk, HK, HR0⟩ := hrel
      by_cases hlt : k < l.length
      · obtain rfl := HA.out (by omega)
        obtain ⟨e0, e1, e2, e3⟩ := HC.out k hlt
        have WB : Below w0.heap.size w0 wr := HB0.out.trans (HK.out.below.mono h0)
        have hz : b < w0.heap.size := lt_of_cell e0
        replace e0 := (WB.cell (p := ⟨b, off + k * 4, none⟩) hz).trans e0
        replace e1 := (WB.cell (p := ⟨b, off + k * 4 + 1, none⟩) hz).trans e1
        replace e2 := (WB.cell (p := ⟨b, off + k * 4 + 2, none⟩) hz).trans e2
        replace e3 := (WB.cell (p := ⟨b, off + k * 4 + 3, none⟩) hz).trans e3
        have HI := Lib.hid (HIH.out k hlt)
        have hT := ET.gatherL_take (callB fs) l st k hlt
        have hN := ET.nodesL_take l 0 k hlt
        have hNl : (ET.nodesL l 0).length = (ET.nodesL (l.take (k + 1)) 0).length + (ET.nodesL (l.drop (k + 1)) 0).length := by rw [← List.length_append, ← ET.nodesL_append, List.take_append_drop]
        have hX := (ET.shB_parts (l.getD k default)).symm.trans (HSh.out k hlt)
        have hshp := (HSub.out k hlt).shape0'
        generalize l.getD k default = x at e0 e1 e2 hT hN hX HI hshp
        generalize f k = pv at e3 HI hshp
        obtain ⟨o, n, s, ps⟩ := x
        simp only [ET.op, ET.num, ET.name, ET.parts] at e0 e1 e2 hX HI hshp
        obtain ⟨pa, pc, rfl, hpl, hpc⟩ := hshp
        have hss := of_decide_eq_true ((Bool.and_eq_true _ _).mp hX).1
        have HSP := Lib.hid ((Bool.and_eq_true _ _).mp hX).2
        rw [hN, List.length_append] at hNl
        have hle := ET.gatherL_le (callB fs) (l.take k) st q 0 HQ.out
        rw [ET.gather_own] at hT
        have hnl : (ET.nodes (.mk o n s ps) 0).length = 1 + (ET.nodesL ps 0).length := by simp only [ET.nodes, List.length_cons]; rw [ET.nodesL_len' ps _ 0]; omega
        have HL1 : Hid (q + (ET.nodesL (l.take k) 0).length + 1 + (ET.nodesL ps 0).length ≤ 4194304) := by show _ ≤ _; have := HL.out; omega
        generalize q + (ET.nodesL (l.take k) 0).length = q1 at hle HL1
        generalize ET.gatherL (callB fs) (l.take k) st = st1 at HR0 hT hle
        have HTT := Lib.hid hT
        have HLE := Lib.hid hle
        have HWB := Lib.hid WB
        have HNR : Hid (n0 ≤ wr.heap.size) := Nat.le_trans hn HK.out.size
        have HFL := Lib.hid HR0.out.lt
        have HSS := Lib.hid hss
        have HOWN : Hid (∀ W', Below w0.heap.size w0 W' → Fd n0 W' fb (clV pb) (ET.own fs o s ps.length st1) → n0 ≤ W'.heap.size → Calls Tryz.prog 54 #[.pointer (some ⟨fb, 0, none⟩), .slice pa ps.length pc] W' fun e w' => e = .returned (.tuple #[]) ∧ Fk n0 fb W' w' ∧ Fd n0 w' fb (clV pb) (ET.gatherL (callB fs) (l.take (k + 1)) st)) := by
          intro W' b1 b2 b3
          have := HI.out HSP.out n0 fb pb pm pn fs (ET.own fs o s ps.length st1) (q1 + 1) h0 HP.out W' b1 b2 b3 (ET.own_le fs o s ps.length HLE.out) HL1.out
          rw [HTT.out]; exact this
        have hv1 : st1.vars.length ≤ 4194304 := Nat.le_trans HLE.out.1 (by have := HL1.out; omega)
        have hv2 : st1.arrays.length ≤ 4194304 := Nat.le_trans HLE.out.2.1 (by have := HL1.out; omega)
        have HV1 := Lib.hid hv1
        have HV2 := Lib.hid hv2
        have hbl : Below wr.heap.size wr (wr.alloc (.cells #[.int .i64 o, .int .i64 n, .string s, .slice pa ps.length pc] 51)) := (Below.refl _ _).alloc (Nat.le_refl _) _
        have HBL := Lib.hid hbl
        have HBX0 : Hid ((wr.alloc (.cells #[.int .i64 o, .int .i64 n, .string s, .slice pa ps.length pc] 51)).heap[wr.heap.size]? = some (.cells #[.int .i64 o, .int .i64 n, .string s, .slice pa ps.length pc] 51 (0, 0))) := heap_alloc_new wr _
        have hfd1 := HR0.out.stay hbl
        have HFD := Lib.hid hfd1
        generalize hpn : ps.length = pl at e3 HOWN hpl HBL HBX0 HFD hbl hfd1
        clear hT hN hNl hX hle hnl WB hz hss hv1 hv2 hbl hfd1 HTT HLE HL1 HI hpn
        have ho4 : (o = 2 ∨ o = 4 ∨ o = 5) ∨ ((o == 2) = false ∧ (o == 4) = false ∧ (o == 5) = false) := by
          by_cases h1 : o = 2
          · exact .inl (.inl h1)
          · by_cases h2 : o = 4
            · exact .inl (.inr (.inl h2))
            · by_cases h3 : o = 5
              · exact .inl (.inr (.inr h3))
              · exact .inr ⟨by simpa using h1, by simpa using h2, by simpa using h3⟩
        rcases ho4 with (rfl | rfl | rfl) | ⟨g1, g2, g3⟩
        · as_aux_lemma =>
          go_upto_region 5 with fail
          obtain ⟨W1, hW1⟩ : ∃ z, (wr.alloc (.cells #[.int .i64 2, .int .i64 n, .string s, .slice pa pl pc] 51)) = z := ⟨_, rfl⟩
          rw [hW1] at HBL HBX0 HFD ⊢
          generalize hbx : wr.heap.size = bx at HBX0 ⊢
          have HBXN := Lib.hid hbx
          have HB2 := Lib.hid (cell_of_heap HBX0.out 2)
          clear hW1 hbx
          refine region_flow rfl 5 rfl (by decide +kernel) [16, 17, 18, 19, 20] (by decide +kernel) rfl (by decide) (by simp) (fun w w' => Below w.heap.size w w') (fun w => Below W1.heap.size W1 w)
            (fun j v _ => v = ([.pointer (some ⟨fb, 0, none⟩), .pointer (some ⟨fb, 0, none⟩), .pointer (some ⟨fb, 0, none⟩), .pointer (some ⟨bx, 2, none⟩), .string s] : List Value).getD j undef) (fun _ _ _ _ _ h => h) ?hr5 ?hs5 ?hl5
          case hs5 =>
            intro ix hix a wx hR hout hdep
            have hix' : ix = 0 ∨ ix = 1 ∨ ix = 2 ∨ ix = 3 ∨ ix = 4 := by omega
            rcases hix' with rfl | rfl | rfl | rfl | rfl
            · have HR := Lib.hid hR
              clear hR
              have e0 := hout 0 (by decide)
              clear hout hdep
              refine op_list (by rfl) ?_
              go_wp2
              exact withK_intro ⟨_, rfl, Below.refl _ _, HR.out, rfl⟩
            · have HR := Lib.hid hR
              clear hR
              have e16 : a.tmps[16]? = some (.pointer (some ⟨fb, 0, none⟩)) := flow_dep hdep 0 16 (by kernel_rfl) rfl
              clear hout hdep
              refine op_list (by rfl) ?_
              go_wp2
              exact withK_intro ⟨_, rfl, Below.refl _ _, HR.out, rfl⟩
            · have HR := Lib.hid hR
              clear hR
              have e17 : a.tmps[17]? = some (.pointer (some ⟨fb, 0, none⟩)) := flow_dep hdep 1 17 (by kernel_rfl) rfl
              clear hout hdep
              refine op_list (by rfl) ?_
              go_wp2
              exact withK_intro ⟨_, rfl, Below.refl _ _, HR.out, rfl⟩
            · have HR := Lib.hid hR
              clear hR
              have e5 := hout 5 (by decide)
              clear hout hdep
              refine op_list (by rfl) ?_
              go_wp2
              exact withK_intro ⟨_, rfl, Below.refl _ _, HR.out, rfl⟩
            · have HR := Lib.hid hR
              clear hR
              have e19 : a.tmps[19]? = some (.pointer (some ⟨bx, 2, none⟩)) := flow_dep hdep 3 19 (by kernel_rfl) rfl
              have b2 := cellB' HR HB2.out
              clear hout hdep
              refine op_list (by rfl) ?_
              go_wp2
              exact withK_intro ⟨_, rfl, Below.refl _ _, HR.out, rfl⟩
          case hl5 =>
            intro vs wx hR hφ
            have HR := Lib.hid hR
            clear hR
            rw [fill_congr _ [16, 17, 18, 19, 20] vs (fun j => ([.pointer (some ⟨fb, 0, none⟩), .pointer (some ⟨fb, 0, none⟩), .pointer (some ⟨fb, 0, none⟩), .pointer (some ⟨bx, 2, none⟩), .string s] : List Value).getD j undef) (fun j hj => hφ j hj)]
            clear hφ vs
            refine op_list (by rfl) ?_
            simp only [fill, fillA, List.getD_cons_zero, List.getD_cons_succ, Nat.reduceAdd]
            have HN1 : Hid (n0 ≤ wx.heap.size) := Nat.le_trans HNR.out (Nat.le_trans HBL.out.size HR.out.size)
            go_wp2_with (go_at_call 26; refine (fadd0 n0 fb _ st1 s HSS.out _ (HFD.out.stay HR.out) HN1.out HV1.out).mono ?_; rintro e w' ⟨rfl, hk4, hf4⟩; have HK4 : Hid (Fk n0 fb wr w') := (Fk.of_below HNR.out (HBL.out.trans (HR.out.mono HBL.out.size))).trans hk4; have HF4 := Lib.hid hf4; have HX4 := Lib.hid (hk4.kept bx _ ((HR.out.block bx (lt_of_heap HBX0.out)).trans HBX0.out) (by have := HFL.out; have := HBXN.out; omega) (fun cs fr e => by injection e with _ h _; exact absurd h (by decide)) (fun es c e => by cases e)); clear hk4 hf4)
            refine withK_intro ?_
            have x3 := cell_of_heap HX4.out 3
            go_wp2_with (go_at_call 54; refine (HOWN.out _ (HWB.out.trans (HK4.out.below.mono h0)) HF4.out (Nat.le_trans HNR.out HK4.out.size)).mono ?_; rintro e w5 ⟨rfl, hk5, hf5⟩; have HK5 := Lib.hid hk5; have HF5 := Lib.hid hf5; clear hk5 hf5)
            go_roundw
            case rel => exact ⟨k + 1, by go_num, by omega, HK.out.trans (HK4.out.trans HK5.out), HF5.out⟩
            case measure => simp [intOf]; omega
          case hr5 => exact (Below.refl _ _).drew
        · as_aux_lemma =>
          go_upto_region 7 with fail
          obtain ⟨W1, hW1⟩ : ∃ z, (wr.alloc (.cells #[.int .i64 4, .int .i64 n, .string s, .slice pa pl pc] 51)) = z := ⟨_, rfl⟩
          rw [hW1] at HBL HBX0 HFD ⊢
          generalize hbx : wr.heap.size = bx at HBX0 ⊢
          have HBXN := Lib.hid hbx
          have HB2 := Lib.hid (cell_of_heap HBX0.out 2)
          clear hW1 hbx
          refine region_flow rfl 5 rfl (by decide +kernel) [24, 25, 26, 27, 28] (by decide +kernel) rfl (by decide) (by simp) (fun w w' => Below w.heap.size w w') (fun w => Below W1.heap.size W1 w)
            (fun j v _ => v = ([.pointer (some ⟨fb, 0, none⟩), .pointer (some ⟨fb, 0, none⟩), .pointer (some ⟨fb, 2, none⟩), .pointer (some ⟨bx, 2, none⟩), .string s] : List Value).getD j undef) (fun _ _ _ _ _ h => h) ?hr7 ?hs7 ?hl7
          case hs7 =>
            intro ix hix a wx hR hout hdep
            have hix' : ix = 0 ∨ ix = 1 ∨ ix = 2 ∨ ix = 3 ∨ ix = 4 := by omega
            rcases hix' with rfl | rfl | rfl | rfl | rfl
            · have HR := Lib.hid hR
              clear hR
              have e0 := hout 0 (by decide)
              clear hout hdep
              refine op_list (by rfl) ?_
              go_wp2
              exact withK_intro ⟨_, rfl, Below.refl _ _, HR.out, rfl⟩
            · have HR := Lib.hid hR
              clear hR
              have e24 : a.tmps[24]? = some (.pointer (some ⟨fb, 0, none⟩)) := flow_dep hdep 0 24 (by kernel_rfl) rfl
              clear hout hdep
              refine op_list (by rfl) ?_
              go_wp2
              exact withK_intro ⟨_, rfl, Below.refl _ _, HR.out, rfl⟩
            · have HR := Lib.hid hR
              clear hR
              have e25 : a.tmps[25]? = some (.pointer (some ⟨fb, 0, none⟩)) := flow_dep hdep 1 25 (by kernel_rfl) rfl
              clear hout hdep
              refine op_list (by rfl) ?_
              go_wp2
              exact withK_intro ⟨_, rfl, Below.refl _ _, HR.out, rfl⟩
            · have HR := Lib.hid hR
              clear hR
              have e5 := hout 5 (by decide)
              clear hout hdep
              refine op_list (by rfl) ?_
              go_wp2
              exact withK_intro ⟨_, rfl, Below.refl _ _, HR.out, rfl⟩
            · have HR := Lib.hid hR
              clear hR
              have e27 : a.tmps[27]? = some (.pointer (some ⟨bx, 2, none⟩)) := flow_dep hdep 3 27 (by kernel_rfl) rfl
              have b2 := cellB' HR HB2.out
              clear hout hdep
              refine op_list (by rfl) ?_
              go_wp2
              exact withK_intro ⟨_, rfl, Below.refl _ _, HR.out, rfl⟩
          case hl7 =>
            intro vs wx hR hφ
            have HR := Lib.hid hR
            clear hR
            rw [fill_congr _ [24, 25, 26, 27, 28] vs (fun j => ([.pointer (some ⟨fb, 0, none⟩), .pointer (some ⟨fb, 0, none⟩), .pointer (some ⟨fb, 2, none⟩), .pointer (some ⟨bx, 2, none⟩), .string s] : List Value).getD j undef) (fun j hj => hφ j hj)]
            clear hφ vs
            refine op_list (by rfl) ?_
            simp only [fill, fillA, List.getD_cons_zero, List.getD_cons_succ, Nat.reduceAdd]
            have HN1 : Hid (n0 ≤ wx.heap.size) := Nat.le_trans HNR.out (Nat.le_trans HBL.out.size HR.out.size)
            go_wp2_with (go_at_call 26; refine (fadd1 n0 fb _ st1 s HSS.out _ (HFD.out.stay HR.out) HN1.out HV2.out).mono ?_; rintro e w' ⟨rfl, hk4, hf4⟩; have HK4 : Hid (Fk n0 fb wr w') := (Fk.of_below HNR.out (HBL.out.trans (HR.out.mono HBL.out.size))).trans hk4; have HF4 := Lib.hid hf4; have HX4 := Lib.hid (hk4.kept bx _ ((HR.out.block bx (lt_of_heap HBX0.out)).trans HBX0.out) (by have := HFL.out; have := HBXN.out; omega) (fun cs fr e => by injection e with _ h _; exact absurd h (by decide)) (fun es c e => by cases e)); clear hk4 hf4)
            refine withK_intro ?_
            have x3 := cell_of_heap HX4.out 3
            go_wp2_with (go_at_call 54; refine (HOWN.out _ (HWB.out.trans (HK4.out.below.mono h0)) HF4.out (Nat.le_trans HNR.out HK4.out.size)).mono ?_; rintro e w5 ⟨rfl, hk5, hf5⟩; have HK5 := Lib.hid hk5; have HF5 := Lib.hid hf5; clear hk5 hf5)
            go_roundw
            case rel => exact ⟨k + 1, by go_num, by omega, HK.out.trans (HK4.out.trans HK5.out), HF5.out⟩
            case measure => simp [intOf]; omega
          case hr7 => exact (Below.refl _ _).drew
        · as_aux_lemma =>
          obtain ⟨c, hc⟩ : ∃ c, callB fs s pl = c := ⟨_, rfl⟩
          obtain ⟨wg, hwg⟩ : ∃ b, st1.wrong = b := ⟨_, rfl⟩
          have hown5 : ET.own fs 5 s pl st1 = { st1 with wrong := wg || !c } := by rw [← hwg, ← hc]; rfl
          rw [hown5] at HOWN
          have HCQ := Lib.hid hc
          obtain ⟨d6, d7, f6⟩ := HFD.out.cells
          rw [hwg] at d6
          have HD6 := Lib.hid d6
          have HD7 := Lib.hid d7
          have HF6 := Lib.hid f6
          have HGE := Lib.hid HFD.out.ge
          clear hc hwg hown5 d6 d7 f6
          go_upto_region 9 with fail
          obtain ⟨W1, hW1⟩ : ∃ z, (wr.alloc (.cells #[.int .i64 5, .int .i64 n, .string s, .slice pa pl pc] 51)) = z := ⟨_, rfl⟩
          rw [hW1] at HBL HBX0 HFD HD6 HD7 HF6 ⊢
          generalize hbx : wr.heap.size = bx at HBX0 ⊢
          have HBXN := Lib.hid hbx
          have HB2 := Lib.hid (cell_of_heap HBX0.out 2)
          have HB3 := Lib.hid (cell_of_heap HBX0.out 3)
          clear hW1 hbx
          have hcs : wg = true ∨ (wg = false ∧ c = true) ∨ (wg = false ∧ c = false) := by cases wg <;> cases c <;> simp
          rcases hcs with rfl | ⟨rfl, rfl⟩ | ⟨rfl, rfl⟩
          · refine region_flow rfl 20 rfl (by decide +kernel) [32, 33, 34, 35, 36, 37, 38, 39, 40, 41, 42, 43, 44, 45, 46, 47, 48, 49, 50, 51] (by decide +kernel) rfl (by decide) (by simp) (fun w w' => Below w.heap.size w w') (fun w => Below W1.heap.size W1 w)
              (fun j v _ => v = ([.pointer (some ⟨fb, 0, none⟩), .pointer (some ⟨fb, 0, none⟩), .pointer (some ⟨fb, 0, none⟩), .pointer (some ⟨fb, 6, none⟩), .bool true, .bool true, undef, undef, undef, undef, undef, undef, undef, undef, undef, undef, undef, .bool true, .pointer (some ⟨fb, 0, none⟩), .pointer (some ⟨fb, 6, none⟩)] : List Value).getD j undef) (fun _ _ _ _ _ h => h) ?hr9 ?hs9 ?hl9
            case hs9 =>
              intro ix hix a wx hR hout hdep
              have hix' : ix = 0 ∨ ix = 1 ∨ ix = 2 ∨ ix = 3 ∨ ix = 4 ∨ ix = 5 ∨ ix = 6 ∨ ix = 7 ∨ ix = 8 ∨ ix = 9 ∨ ix = 10 ∨ ix = 11 ∨ ix = 12 ∨ ix = 13 ∨ ix = 14 ∨ ix = 15 ∨ ix = 16 ∨ ix = 17 ∨ ix = 18 ∨ ix = 19 := by omega
              rcases hix' with rfl | rfl | rfl | rfl | rfl | rfl | rfl | rfl | rfl | rfl | rfl | rfl | rfl | rfl | rfl | rfl | rfl | rfl | rfl | rfl
              · have HR := Lib.hid hR
                clear hR
                have e0 := hout 0 (by decide)
                clear hout hdep
                refine op_list (by rfl) ?_
                go_wp2
                exact withK_intro ⟨_, rfl, Below.refl _ _, HR.out, rfl⟩
              · have HR := Lib.hid hR
                clear hR
                have e0 := hout 0 (by decide)
                clear hout hdep
                refine op_list (by rfl) ?_
                go_wp2
                exact withK_intro ⟨_, rfl, Below.refl _ _, HR.out, rfl⟩
              · have HR := Lib.hid hR
                clear hR
                have e33 : a.tmps[33]? = some (.pointer (some ⟨fb, 0, none⟩)) := flow_dep hdep 1 33 (by kernel_rfl) rfl
                clear hout hdep
                refine op_list (by rfl) ?_
                go_wp2
                exact withK_intro ⟨_, rfl, Below.refl _ _, HR.out, rfl⟩
              · have HR := Lib.hid hR
                clear hR
                have e34 : a.tmps[34]? = some (.pointer (some ⟨fb, 0, none⟩)) := flow_dep hdep 2 34 (by kernel_rfl) rfl
                clear hout hdep
                refine op_list (by rfl) ?_
                go_wp2
                exact withK_intro ⟨_, rfl, Below.refl _ _, HR.out, rfl⟩
              · have HR := Lib.hid hR
                clear hR
                have e35 : a.tmps[35]? = some (.pointer (some ⟨fb, 6, none⟩)) := flow_dep hdep 3 35 (by kernel_rfl) rfl
                have d6 := cellB' HR HD6.out
                clear hout hdep
                refine op_list (by rfl) ?_
                go_wp2
                exact withK_intro ⟨_, rfl, Below.refl _ _, HR.out, rfl⟩
              · have HR := Lib.hid hR
                clear hR
                have e36 : a.tmps[36]? = some (.bool true) := flow_dep hdep 4 36 (by kernel_rfl) rfl
                clear hout hdep
                refine op_list (by rfl) ?_
                go_wp2
                exact withK_intro ⟨_, rfl, Below.refl _ _, HR.out, rfl⟩
              · have HR := Lib.hid hR
                clear hR
                have e37 : a.tmps[37]? = some (.bool true) := flow_dep hdep 5 37 (by kernel_rfl) rfl
                clear hout hdep
                refine op_skip (by rfl) (by simp [Region.wanted, yielded, e37]) ?_
                exact ⟨_, rfl, Below.refl _ _, HR.out, rfl⟩
              · have HR := Lib.hid hR
                clear hR
                have e37 : a.tmps[37]? = some (.bool true) := flow_dep hdep 5 37 (by kernel_rfl) rfl
                clear hout hdep
                refine op_skip (by rfl) (by simp [Region.wanted, yielded, e37]) ?_
                exact ⟨_, rfl, Below.refl _ _, HR.out, rfl⟩
              · have HR := Lib.hid hR
                clear hR
                have e37 : a.tmps[37]? = some (.bool true) := flow_dep hdep 5 37 (by kernel_rfl) rfl
                clear hout hdep
                refine op_skip (by rfl) (by simp [Region.wanted, yielded, e37]) ?_
                exact ⟨_, rfl, Below.refl _ _, HR.out, rfl⟩
              · have HR := Lib.hid hR
                clear hR
                have e37 : a.tmps[37]? = some (.bool true) := flow_dep hdep 5 37 (by kernel_rfl) rfl
                clear hout hdep
                refine op_skip (by rfl) (by simp [Region.wanted, yielded, e37]) ?_
                exact ⟨_, rfl, Below.refl _ _, HR.out, rfl⟩
              · have HR := Lib.hid hR
                clear hR
                have e37 : a.tmps[37]? = some (.bool true) := flow_dep hdep 5 37 (by kernel_rfl) rfl
                clear hout hdep
                refine op_skip (by rfl) (by simp [Region.wanted, yielded, e37]) ?_
                exact ⟨_, rfl, Below.refl _ _, HR.out, rfl⟩
              · have HR := Lib.hid hR
                clear hR
                have e37 : a.tmps[37]? = some (.bool true) := flow_dep hdep 5 37 (by kernel_rfl) rfl
                clear hout hdep
                refine op_skip (by rfl) (by simp [Region.wanted, yielded, e37]) ?_
                exact ⟨_, rfl, Below.refl _ _, HR.out, rfl⟩
              · have HR := Lib.hid hR
                clear hR
                have e37 : a.tmps[37]? = some (.bool true) := flow_dep hdep 5 37 (by kernel_rfl) rfl
                clear hout hdep
                refine op_skip (by rfl) (by simp [Region.wanted, yielded, e37]) ?_
                exact ⟨_, rfl, Below.refl _ _, HR.out, rfl⟩
              · have HR := Lib.hid hR
                clear hR
                have e37 : a.tmps[37]? = some (.bool true) := flow_dep hdep 5 37 (by kernel_rfl) rfl
                clear hout hdep
                refine op_skip (by rfl) (by simp [Region.wanted, yielded, e37]) ?_
                exact ⟨_, rfl, Below.refl _ _, HR.out, rfl⟩
              · have HR := Lib.hid hR
                clear hR
                have e37 : a.tmps[37]? = some (.bool true) := flow_dep hdep 5 37 (by kernel_rfl) rfl
                clear hout hdep
                refine op_skip (by rfl) (by simp [Region.wanted, yielded, e37]) ?_
                exact ⟨_, rfl, Below.refl _ _, HR.out, rfl⟩
              · have HR := Lib.hid hR
                clear hR
                have e37 : a.tmps[37]? = some (.bool true) := flow_dep hdep 5 37 (by kernel_rfl) rfl
                clear hout hdep
                refine op_skip (by rfl) (by simp [Region.wanted, yielded, e37]) ?_
                exact ⟨_, rfl, Below.refl _ _, HR.out, rfl⟩
              · have HR := Lib.hid hR
                clear hR
                have e37 : a.tmps[37]? = some (.bool true) := flow_dep hdep 5 37 (by kernel_rfl) rfl
                clear hout hdep
                refine op_skip (by rfl) (by simp [Region.wanted, yielded, e37]) ?_
                exact ⟨_, rfl, Below.refl _ _, HR.out, rfl⟩
              · have HR := Lib.hid hR
                clear hR
                have e37 : a.tmps[37]? = some (.bool true) := flow_dep hdep 5 37 (by kernel_rfl) rfl
                have e48 : a.tmps[48]? = some (undef) := flow_dep hdep 16 48 (by kernel_rfl) rfl
                clear hout hdep
                refine op_list (by rfl) ?_
                go_wp2
                exact withK_intro ⟨_, rfl, Below.refl _ _, HR.out, rfl⟩
              · have HR := Lib.hid hR
                clear hR
                have e32 : a.tmps[32]? = some (.pointer (some ⟨fb, 0, none⟩)) := flow_dep hdep 0 32 (by kernel_rfl) rfl
                clear hout hdep
                refine op_list (by rfl) ?_
                go_wp2
                exact withK_intro ⟨_, rfl, Below.refl _ _, HR.out, rfl⟩
              · have HR := Lib.hid hR
                clear hR
                have e50 : a.tmps[50]? = some (.pointer (some ⟨fb, 0, none⟩)) := flow_dep hdep 18 50 (by kernel_rfl) rfl
                clear hout hdep
                refine op_list (by rfl) ?_
                go_wp2
                exact withK_intro ⟨_, rfl, Below.refl _ _, HR.out, rfl⟩
            case hl9 =>
              intro vs wx hR hφ
              have HR := Lib.hid hR
              clear hR
              rw [fill_congr _ [32, 33, 34, 35, 36, 37, 38, 39, 40, 41, 42, 43, 44, 45, 46, 47, 48, 49, 50, 51] vs (fun j => ([.pointer (some ⟨fb, 0, none⟩), .pointer (some ⟨fb, 0, none⟩), .pointer (some ⟨fb, 0, none⟩), .pointer (some ⟨fb, 6, none⟩), .bool true, .bool true, undef, undef, undef, undef, undef, undef, undef, undef, undef, undef, undef, .bool true, .pointer (some ⟨fb, 0, none⟩), .pointer (some ⟨fb, 6, none⟩)] : List Value).getD j undef) (fun j hj => hφ j hj)]
              clear hφ vs
              have HN1 : Hid (n0 ≤ wx.heap.size) := Nat.le_trans HNR.out (Nat.le_trans HBL.out.size HR.out.size)
              refine op_store rfl rfl rfl 4 (.tmp 51) (.tmp 49) rfl ⟨fb, 6, none⟩ (.bool true) (eval_fill _ _ _ 19 51 (by decide) rfl rfl) (eval_fill _ _ _ 17 49 (by decide) rfl rfl) (run_store_bool _ _ _ true true (cellB' HR HD6.out) ((HR.out.frozen (p := ⟨fb, 6, none⟩) (lt_of_cell HD6.out)).trans HF6.out)) ?_
              simp only [fill, fillA, List.getD_cons_zero, List.getD_cons_succ, Nat.reduceAdd, List.setIfInBounds_toArray, List.set_cons_succ, List.set_cons_zero]
              have HFX := Lib.hid ((HFD.out.stay HR.out).set true)
              have HK4 : Hid (Fk n0 fb wr (wx.setCell ⟨fb, 6, none⟩ (.bool true))) := (Fk.of_below HNR.out (HBL.out.trans (HR.out.mono HBL.out.size))).trans (Fk.set HGE.out true)
              have HX4 : Hid ((wx.setCell ⟨fb, 6, none⟩ (.bool true)).heap[bx]? = _) := (Below.heap_setCell wx _ _ bx (by show bx ≠ fb; have := HFL.out; have := HBXN.out; omega)).trans ((HR.out.block bx (lt_of_heap HBX0.out)).trans HBX0.out)
              generalize wx.setCell ⟨fb, 6, none⟩ (.bool true) = w4 at HFX HK4 HX4 ⊢
              have x3 := cell_of_heap HX4.out 3
              go_wp2_with (go_at_call 54; refine (HOWN.out _ (HWB.out.trans (HK4.out.below.mono h0)) HFX.out (Nat.le_trans HNR.out HK4.out.size)).mono ?_; rintro e w5 ⟨rfl, hk5, hf5⟩; have HK5 := Lib.hid hk5; have HF5 := Lib.hid hf5; clear hk5 hf5)
              go_roundw
              case rel => exact ⟨k + 1, by go_num, by omega, HK.out.trans (HK4.out.trans HK5.out), HF5.out⟩
              case measure => simp [intOf]; omega
            case hr9 => exact (Below.refl _ _).drew
          · refine region_flow rfl 20 rfl (by decide +kernel) [32, 33, 34, 35, 36, 37, 38, 39, 40, 41, 42, 43, 44, 45, 46, 47, 48, 49, 50, 51] (by decide +kernel) rfl (by decide) (by simp) (fun w w' => Below w.heap.size w w') (fun w => Below W1.heap.size W1 w)
              (fun j v _ => v = ([.pointer (some ⟨fb, 0, none⟩), .pointer (some ⟨fb, 0, none⟩), .pointer (some ⟨fb, 0, none⟩), .pointer (some ⟨fb, 6, none⟩), .bool false, .bool false, .pointer (some ⟨fb, 0, none⟩), .pointer (some ⟨fb, 0, none⟩), .pointer (some ⟨fb, 7, none⟩), clV pb, .pointer (some ⟨bx, 2, none⟩), .string s, .pointer (some ⟨bx, 3, none⟩), .slice pa pl pc, .int .i64 pl, .bool true, .bool false, .bool false, .pointer (some ⟨fb, 0, none⟩), .pointer (some ⟨fb, 6, none⟩)] : List Value).getD j undef) (fun _ _ _ _ _ h => h) ?hr9 ?hs9 ?hl9
            case hs9 =>
              intro ix hix a wx hR hout hdep
              have hix' : ix = 0 ∨ ix = 1 ∨ ix = 2 ∨ ix = 3 ∨ ix = 4 ∨ ix = 5 ∨ ix = 6 ∨ ix = 7 ∨ ix = 8 ∨ ix = 9 ∨ ix = 10 ∨ ix = 11 ∨ ix = 12 ∨ ix = 13 ∨ ix = 14 ∨ ix = 15 ∨ ix = 16 ∨ ix = 17 ∨ ix = 18 ∨ ix = 19 := by omega
              rcases hix' with rfl | rfl | rfl | rfl | rfl | rfl | rfl | rfl | rfl | rfl | rfl | rfl | rfl | rfl | rfl | rfl | rfl | rfl | rfl | rfl
              · have HR := Lib.hid hR
                clear hR
                have e0 := hout 0 (by decide)
                clear hout hdep
                refine op_list (by rfl) ?_
                go_wp2
                exact withK_intro ⟨_, rfl, Below.refl _ _, HR.out, rfl⟩
              · have HR := Lib.hid hR
                clear hR
                have e0 := hout 0 (by decide)
                clear hout hdep
                refine op_list (by rfl) ?_
                go_wp2
                exact withK_intro ⟨_, rfl, Below.refl _ _, HR.out, rfl⟩
              · have HR := Lib.hid hR
                clear hR
                have e33 : a.tmps[33]? = some (.pointer (some ⟨fb, 0, none⟩)) := flow_dep hdep 1 33 (by kernel_rfl) rfl
                clear hout hdep
                refine op_list (by rfl) ?_
                go_wp2
                exact withK_intro ⟨_, rfl, Below.refl _ _, HR.out, rfl⟩
              · have HR := Lib.hid hR
                clear hR
                have e34 : a.tmps[34]? = some (.pointer (some ⟨fb, 0, none⟩)) := flow_dep hdep 2 34 (by kernel_rfl) rfl
                clear hout hdep
                refine op_list (by rfl) ?_
                go_wp2
                exact withK_intro ⟨_, rfl, Below.refl _ _, HR.out, rfl⟩
              · have HR := Lib.hid hR
                clear hR
                have e35 : a.tmps[35]? = some (.pointer (some ⟨fb, 6, none⟩)) := flow_dep hdep 3 35 (by kernel_rfl) rfl
                have d6 := cellB' HR HD6.out
                clear hout hdep
                refine op_list (by rfl) ?_
                go_wp2
                exact withK_intro ⟨_, rfl, Below.refl _ _, HR.out, rfl⟩
              · have HR := Lib.hid hR
                clear hR
                have e36 : a.tmps[36]? = some (.bool false) := flow_dep hdep 4 36 (by kernel_rfl) rfl
                clear hout hdep
                refine op_list (by rfl) ?_
                go_wp2
                exact withK_intro ⟨_, rfl, Below.refl _ _, HR.out, rfl⟩
              · have HR := Lib.hid hR
                clear hR
                have e0 := hout 0 (by decide)
                have e37 : a.tmps[37]? = some (.bool false) := flow_dep hdep 5 37 (by kernel_rfl) rfl
                clear hout hdep
                refine op_list (by rfl) ?_
                go_wp2
                exact withK_intro ⟨_, rfl, Below.refl _ _, HR.out, rfl⟩
              · have HR := Lib.hid hR
                clear hR
                have e38 : a.tmps[38]? = some (.pointer (some ⟨fb, 0, none⟩)) := flow_dep hdep 6 38 (by kernel_rfl) rfl
                have e37 : a.tmps[37]? = some (.bool false) := flow_dep hdep 5 37 (by kernel_rfl) rfl
                clear hout hdep
                refine op_list (by rfl) ?_
                go_wp2
                exact withK_intro ⟨_, rfl, Below.refl _ _, HR.out, rfl⟩
              · have HR := Lib.hid hR
                clear hR
                have e39 : a.tmps[39]? = some (.pointer (some ⟨fb, 0, none⟩)) := flow_dep hdep 7 39 (by kernel_rfl) rfl
                have e37 : a.tmps[37]? = some (.bool false) := flow_dep hdep 5 37 (by kernel_rfl) rfl
                clear hout hdep
                refine op_list (by rfl) ?_
                go_wp2
                exact withK_intro ⟨_, rfl, Below.refl _ _, HR.out, rfl⟩
              · have HR := Lib.hid hR
                clear hR
                have e40 : a.tmps[40]? = some (.pointer (some ⟨fb, 7, none⟩)) := flow_dep hdep 8 40 (by kernel_rfl) rfl
                have e37 : a.tmps[37]? = some (.bool false) := flow_dep hdep 5 37 (by kernel_rfl) rfl
                have d7 := cellB' HR HD7.out
                clear hout hdep
                refine op_list (by rfl) ?_
                go_wp2
                exact withK_intro ⟨_, rfl, Below.refl _ _, HR.out, rfl⟩
              · have HR := Lib.hid hR
                clear hR
                have e5 := hout 5 (by decide)
                have e37 : a.tmps[37]? = some (.bool false) := flow_dep hdep 5 37 (by kernel_rfl) rfl
                clear hout hdep
                refine op_list (by rfl) ?_
                go_wp2
                exact withK_intro ⟨_, rfl, Below.refl _ _, HR.out, rfl⟩
              · have HR := Lib.hid hR
                clear hR
                have e42 : a.tmps[42]? = some (.pointer (some ⟨bx, 2, none⟩)) := flow_dep hdep 10 42 (by kernel_rfl) rfl
                have e37 : a.tmps[37]? = some (.bool false) := flow_dep hdep 5 37 (by kernel_rfl) rfl
                have b2 := cellB' HR HB2.out
                clear hout hdep
                refine op_list (by rfl) ?_
                go_wp2
                exact withK_intro ⟨_, rfl, Below.refl _ _, HR.out, rfl⟩
              · have HR := Lib.hid hR
                clear hR
                have e5 := hout 5 (by decide)
                have e37 : a.tmps[37]? = some (.bool false) := flow_dep hdep 5 37 (by kernel_rfl) rfl
                clear hout hdep
                refine op_list (by rfl) ?_
                go_wp2
                exact withK_intro ⟨_, rfl, Below.refl _ _, HR.out, rfl⟩
              · have HR := Lib.hid hR
                clear hR
                have e44 : a.tmps[44]? = some (.pointer (some ⟨bx, 3, none⟩)) := flow_dep hdep 12 44 (by kernel_rfl) rfl
                have e37 : a.tmps[37]? = some (.bool false) := flow_dep hdep 5 37 (by kernel_rfl) rfl
                have b3 := cellB' HR HB3.out
                clear hout hdep
                refine op_list (by rfl) ?_
                go_wp2
                exact withK_intro ⟨_, rfl, Below.refl _ _, HR.out, rfl⟩
              · have HR := Lib.hid hR
                clear hR
                have e45 : a.tmps[45]? = some (.slice pa pl pc) := flow_dep hdep 13 45 (by kernel_rfl) rfl
                have e37 : a.tmps[37]? = some (.bool false) := flow_dep hdep 5 37 (by kernel_rfl) rfl
                clear hout hdep
                refine op_list (by rfl) ?_
                go_wp2
                exact withK_intro ⟨_, rfl, Below.refl _ _, HR.out, rfl⟩
              · have HR := Lib.hid hR
                clear hR
                have e41 : a.tmps[41]? = some (clV pb) := flow_dep hdep 9 41 (by kernel_rfl) rfl
                have e43 : a.tmps[43]? = some (.string s) := flow_dep hdep 11 43 (by kernel_rfl) rfl
                have e46 : a.tmps[46]? = some (.int .i64 pl) := flow_dep hdep 14 46 (by kernel_rfl) rfl
                have e37 : a.tmps[37]? = some (.bool false) := flow_dep hdep 5 37 (by kernel_rfl) rfl
                unfold clV at e41
                clear hout hdep
                refine op_list (by rfl) ?_
                go_wp2_with (go_at_call 25; refine (call_r pb pm pn fs s HSS.out pl _ (HP.out.stay (HWB.out.trans ((HBL.out.trans (HR.out.mono HBL.out.size)).mono HWB.out.size))) _ HCQ.out).mono ?_; rintro e w' ⟨rfl, rfl⟩)
                exact withK_intro ⟨_, rfl, Below.refl _ _, HR.out, rfl⟩
              · have HR := Lib.hid hR
                clear hR
                have e47 : a.tmps[47]? = some (.bool true) := flow_dep hdep 15 47 (by kernel_rfl) rfl
                have e37 : a.tmps[37]? = some (.bool false) := flow_dep hdep 5 37 (by kernel_rfl) rfl
                clear hout hdep
                refine op_list (by rfl) ?_
                go_wp2
                exact withK_intro ⟨_, rfl, Below.refl _ _, HR.out, rfl⟩
              · have HR := Lib.hid hR
                clear hR
                have e37 : a.tmps[37]? = some (.bool false) := flow_dep hdep 5 37 (by kernel_rfl) rfl
                have e48 : a.tmps[48]? = some (.bool false) := flow_dep hdep 16 48 (by kernel_rfl) rfl
                clear hout hdep
                refine op_list (by rfl) ?_
                go_wp2
                exact withK_intro ⟨_, rfl, Below.refl _ _, HR.out, rfl⟩
              · have HR := Lib.hid hR
                clear hR
                have e32 : a.tmps[32]? = some (.pointer (some ⟨fb, 0, none⟩)) := flow_dep hdep 0 32 (by kernel_rfl) rfl
                clear hout hdep
                refine op_list (by rfl) ?_
                go_wp2
                exact withK_intro ⟨_, rfl, Below.refl _ _, HR.out, rfl⟩
              · have HR := Lib.hid hR
                clear hR
                have e50 : a.tmps[50]? = some (.pointer (some ⟨fb, 0, none⟩)) := flow_dep hdep 18 50 (by kernel_rfl) rfl
                clear hout hdep
                refine op_list (by rfl) ?_
                go_wp2
                exact withK_intro ⟨_, rfl, Below.refl _ _, HR.out, rfl⟩
            case hl9 =>
              intro vs wx hR hφ
              have HR := Lib.hid hR
              clear hR
              rw [fill_congr _ [32, 33, 34, 35, 36, 37, 38, 39, 40, 41, 42, 43, 44, 45, 46, 47, 48, 49, 50, 51] vs (fun j => ([.pointer (some ⟨fb, 0, none⟩), .pointer (some ⟨fb, 0, none⟩), .pointer (some ⟨fb, 0, none⟩), .pointer (some ⟨fb, 6, none⟩), .bool false, .bool false, .pointer (some ⟨fb, 0, none⟩), .pointer (some ⟨fb, 0, none⟩), .pointer (some ⟨fb, 7, none⟩), clV pb, .pointer (some ⟨bx, 2, none⟩), .string s, .pointer (some ⟨bx, 3, none⟩), .slice pa pl pc, .int .i64 pl, .bool true, .bool false, .bool false, .pointer (some ⟨fb, 0, none⟩), .pointer (some ⟨fb, 6, none⟩)] : List Value).getD j undef) (fun j hj => hφ j hj)]
              clear hφ vs
              have HN1 : Hid (n0 ≤ wx.heap.size) := Nat.le_trans HNR.out (Nat.le_trans HBL.out.size HR.out.size)
              refine op_store rfl rfl rfl 4 (.tmp 51) (.tmp 49) rfl ⟨fb, 6, none⟩ (.bool false) (eval_fill _ _ _ 19 51 (by decide) rfl rfl) (eval_fill _ _ _ 17 49 (by decide) rfl rfl) (run_store_bool _ _ _ false false (cellB' HR HD6.out) ((HR.out.frozen (p := ⟨fb, 6, none⟩) (lt_of_cell HD6.out)).trans HF6.out)) ?_
              simp only [fill, fillA, List.getD_cons_zero, List.getD_cons_succ, Nat.reduceAdd, List.setIfInBounds_toArray, List.set_cons_succ, List.set_cons_zero]
              have HFX := Lib.hid ((HFD.out.stay HR.out).set false)
              have HK4 : Hid (Fk n0 fb wr (wx.setCell ⟨fb, 6, none⟩ (.bool false))) := (Fk.of_below HNR.out (HBL.out.trans (HR.out.mono HBL.out.size))).trans (Fk.set HGE.out false)
              have HX4 : Hid ((wx.setCell ⟨fb, 6, none⟩ (.bool false)).heap[bx]? = _) := (Below.heap_setCell wx _ _ bx (by show bx ≠ fb; have := HFL.out; have := HBXN.out; omega)).trans ((HR.out.block bx (lt_of_heap HBX0.out)).trans HBX0.out)
              generalize wx.setCell ⟨fb, 6, none⟩ (.bool false) = w4 at HFX HK4 HX4 ⊢
              have x3 := cell_of_heap HX4.out 3
              go_wp2_with (go_at_call 54; refine (HOWN.out _ (HWB.out.trans (HK4.out.below.mono h0)) HFX.out (Nat.le_trans HNR.out HK4.out.size)).mono ?_; rintro e w5 ⟨rfl, hk5, hf5⟩; have HK5 := Lib.hid hk5; have HF5 := Lib.hid hf5; clear hk5 hf5)
              go_roundw
              case rel => exact ⟨k + 1, by go_num, by omega, HK.out.trans (HK4.out.trans HK5.out), HF5.out⟩
              case measure => simp [intOf]; omega
            case hr9 => exact (Below.refl _ _).drew
          · refine region_flow rfl 20 rfl (by decide +kernel) [32, 33, 34, 35, 36, 37, 38, 39, 40, 41, 42, 43, 44, 45, 46, 47, 48, 49, 50, 51] (by decide +kernel) rfl (by decide) (by simp) (fun w w' => Below w.heap.size w w') (fun w => Below W1.heap.size W1 w)
              (fun j v _ => v = ([.pointer (some ⟨fb, 0, none⟩), .pointer (some ⟨fb, 0, none⟩), .pointer (some ⟨fb, 0, none⟩), .pointer (some ⟨fb, 6, none⟩), .bool false, .bool false, .pointer (some ⟨fb, 0, none⟩), .pointer (some ⟨fb, 0, none⟩), .pointer (some ⟨fb, 7, none⟩), clV pb, .pointer (some ⟨bx, 2, none⟩), .string s, .pointer (some ⟨bx, 3, none⟩), .slice pa pl pc, .int .i64 pl, .bool false, .bool true, .bool true, .pointer (some ⟨fb, 0, none⟩), .pointer (some ⟨fb, 6, none⟩)] : List Value).getD j undef) (fun _ _ _ _ _ h => h) ?hr9 ?hs9 ?hl9
            case hs9 =>
              intro ix hix a wx hR hout hdep
              have hix' : ix = 0 ∨ ix = 1 ∨ ix = 2 ∨ ix = 3 ∨ ix = 4 ∨ ix = 5 ∨ ix = 6 ∨ ix = 7 ∨ ix = 8 ∨ ix = 9 ∨ ix = 10 ∨ ix = 11 ∨ ix = 12 ∨ ix = 13 ∨ ix = 14 ∨ ix = 15 ∨ ix = 16 ∨ ix = 17 ∨ ix = 18 ∨ ix = 19 := by omega
              rcases hix' with rfl | rfl | rfl | rfl | rfl | rfl | rfl | rfl | rfl | rfl | rfl | rfl | rfl | rfl | rfl | rfl | rfl | rfl | rfl | rfl
              · have HR := Lib.hid hR
                clear hR
                have e0 := hout 0 (by decide)
                clear hout hdep
                refine op_list (by rfl) ?_
                go_wp2
                exact withK_intro ⟨_, rfl, Below.refl _ _, HR.out, rfl⟩
              · have HR := Lib.hid hR
                clear hR
                have e0 := hout 0 (by decide)
                clear hout hdep
                refine op_list (by rfl) ?_
                go_wp2
                exact withK_intro ⟨_, rfl, Below.refl _ _, HR.out, rfl⟩
              · have HR := Lib.hid hR
                clear hR
                have e33 : a.tmps[33]? = some (.pointer (some ⟨fb, 0, none⟩)) := flow_dep hdep 1 33 (by kernel_rfl) rfl
                clear hout hdep
                refine op_list (by rfl) ?_
                go_wp2
                exact withK_intro ⟨_, rfl, Below.refl _ _, HR.out, rfl⟩
              · have HR := Lib.hid hR
                clear hR
                have e34 : a.tmps[34]? = some (.pointer (some ⟨fb, 0, none⟩)) := flow_dep hdep 2 34 (by kernel_rfl) rfl
                clear hout hdep
                refine op_list (by rfl) ?_
                go_wp2
                exact withK_intro ⟨_, rfl, Below.refl _ _, HR.out, rfl⟩
              · have HR := Lib.hid hR
                clear hR
                have e35 : a.tmps[35]? = some (.pointer (some ⟨fb, 6, none⟩)) := flow_dep hdep 3 35 (by kernel_rfl) rfl
                have d6 := cellB' HR HD6.out
                clear hout hdep
                refine op_list (by rfl) ?_
                go_wp2
                exact withK_intro ⟨_, rfl, Below.refl _ _, HR.out, rfl⟩
              · have HR := Lib.hid hR
                clear hR
                have e36 : a.tmps[36]? = some (.bool false) := flow_dep hdep 4 36 (by kernel_rfl) rfl
                clear hout hdep
                refine op_list (by rfl) ?_
                go_wp2
                exact withK_intro ⟨_, rfl, Below.refl _ _, HR.out, rfl⟩
              · have HR := Lib.hid hR
                clear hR
                have e0 := hout 0 (by decide)
                have e37 : a.tmps[37]? = some (.bool false) := flow_dep hdep 5 37 (by kernel_rfl) rfl
                clear hout hdep
                refine op_list (by rfl) ?_
                go_wp2
                exact withK_intro ⟨_, rfl, Below.refl _ _, HR.out, rfl⟩
              · have HR := Lib.hid hR
                clear hR
                have e38 : a.tmps[38]? = some (.pointer (some ⟨fb, 0, none⟩)) := flow_dep hdep 6 38 (by kernel_rfl) rfl
                have e37 : a.tmps[37]? = some (.bool false) := flow_dep hdep 5 37 (by kernel_rfl) rfl
                clear hout hdep
                refine op_list (by rfl) ?_
                go_wp2
                exact withK_intro ⟨_, rfl, Below.refl _ _, HR.out, rfl⟩
              · have HR := Lib.hid hR
                clear hR
                have e39 : a.tmps[39]? = some (.pointer (some ⟨fb, 0, none⟩)) := flow_dep hdep 7 39 (by kernel_rfl) rfl
                have e37 : a.tmps[37]? = some (.bool false) := flow_dep hdep 5 37 (by kernel_rfl) rfl
                clear hout hdep
                refine op_list (by rfl) ?_
                go_wp2
                exact withK_intro ⟨_, rfl, Below.refl _ _, HR.out, rfl⟩
              · have HR := Lib.hid hR
                clear hR
                have e40 : a.tmps[40]? = some (.pointer (some ⟨fb, 7, none⟩)) := flow_dep hdep 8 40 (by kernel_rfl) rfl
                have e37 : a.tmps[37]? = some (.bool false) := flow_dep hdep 5 37 (by kernel_rfl) rfl
                have d7 := cellB' HR HD7.out
                clear hout hdep
                refine op_list (by rfl) ?_
                go_wp2
                exact withK_intro ⟨_, rfl, Below.refl _ _, HR.out, rfl⟩
              · have HR := Lib.hid hR
                clear hR
                have e5 := hout 5 (by decide)
                have e37 : a.tmps[37]? = some (.bool false) := flow_dep hdep 5 37 (by kernel_rfl) rfl
                clear hout hdep
                refine op_list (by rfl) ?_
                go_wp2
                exact withK_intro ⟨_, rfl, Below.refl _ _, HR.out, rfl⟩
              · have HR := Lib.hid hR
                clear hR
                have e42 : a.tmps[42]? = some (.pointer (some ⟨bx, 2, none⟩)) := flow_dep hdep 10 42 (by kernel_rfl) rfl
                have e37 : a.tmps[37]? = some (.bool false) := flow_dep hdep 5 37 (by kernel_rfl) rfl
                have b2 := cellB' HR HB2.out
                clear hout hdep
                refine op_list (by rfl) ?_
                go_wp2
                exact withK_intro ⟨_, rfl, Below.refl _ _, HR.out, rfl⟩
              · have HR := Lib.hid hR
                clear hR
                have e5 := hout 5 (by decide)
                have e37 : a.tmps[37]? = some (.bool false) := flow_dep hdep 5 37 (by kernel_rfl) rfl
                clear hout hdep
                refine op_list (by rfl) ?_
                go_wp2
                exact withK_intro ⟨_, rfl, Below.refl _ _, HR.out, rfl⟩
              · have HR := Lib.hid hR
                clear hR
                have e44 : a.tmps[44]? = some (.pointer (some ⟨bx, 3, none⟩)) := flow_dep hdep 12 44 (by kernel_rfl) rfl
                have e37 : a.tmps[37]? = some (.bool false) := flow_dep hdep 5 37 (by kernel_rfl) rfl
                have b3 := cellB' HR HB3.out
                clear hout hdep
                refine op_list (by rfl) ?_
                go_wp2
                exact withK_intro ⟨_, rfl, Below.refl _ _, HR.out, rfl⟩
              · have HR := Lib.hid hR
                clear hR
                have e45 : a.tmps[45]? = some (.slice pa pl pc) := flow_dep hdep 13 45 (by kernel_rfl) rfl
                have e37 : a.tmps[37]? = some (.bool false) := flow_dep hdep 5 37 (by kernel_rfl) rfl
                clear hout hdep
                refine op_list (by rfl) ?_
                go_wp2
                exact withK_intro ⟨_, rfl, Below.refl _ _, HR.out, rfl⟩
              · have HR := Lib.hid hR
                clear hR
                have e41 : a.tmps[41]? = some (clV pb) := flow_dep hdep 9 41 (by kernel_rfl) rfl
                have e43 : a.tmps[43]? = some (.string s) := flow_dep hdep 11 43 (by kernel_rfl) rfl
                have e46 : a.tmps[46]? = some (.int .i64 pl) := flow_dep hdep 14 46 (by kernel_rfl) rfl
                have e37 : a.tmps[37]? = some (.bool false) := flow_dep hdep 5 37 (by kernel_rfl) rfl
                unfold clV at e41
                clear hout hdep
                refine op_list (by rfl) ?_
                go_wp2_with (go_at_call 25; refine (call_r pb pm pn fs s HSS.out pl _ (HP.out.stay (HWB.out.trans ((HBL.out.trans (HR.out.mono HBL.out.size)).mono HWB.out.size))) _ HCQ.out).mono ?_; rintro e w' ⟨rfl, rfl⟩)
                exact withK_intro ⟨_, rfl, Below.refl _ _, HR.out, rfl⟩
              · have HR := Lib.hid hR
                clear hR
                have e47 : a.tmps[47]? = some (.bool false) := flow_dep hdep 15 47 (by kernel_rfl) rfl
                have e37 : a.tmps[37]? = some (.bool false) := flow_dep hdep 5 37 (by kernel_rfl) rfl
                clear hout hdep
                refine op_list (by rfl) ?_
                go_wp2
                exact withK_intro ⟨_, rfl, Below.refl _ _, HR.out, rfl⟩
              · have HR := Lib.hid hR
                clear hR
                have e37 : a.tmps[37]? = some (.bool false) := flow_dep hdep 5 37 (by kernel_rfl) rfl
                have e48 : a.tmps[48]? = some (.bool true) := flow_dep hdep 16 48 (by kernel_rfl) rfl
                clear hout hdep
                refine op_list (by rfl) ?_
                go_wp2
                exact withK_intro ⟨_, rfl, Below.refl _ _, HR.out, rfl⟩
              · have HR := Lib.hid hR
                clear hR
                have e32 : a.tmps[32]? = some (.pointer (some ⟨fb, 0, none⟩)) := flow_dep hdep 0 32 (by kernel_rfl) rfl
                clear hout hdep
                refine op_list (by rfl) ?_
                go_wp2
                exact withK_intro ⟨_, rfl, Below.refl _ _, HR.out, rfl⟩
              · have HR := Lib.hid hR
                clear hR
                have e50 : a.tmps[50]? = some (.pointer (some ⟨fb, 0, none⟩)) := flow_dep hdep 18 50 (by kernel_rfl) rfl
                clear hout hdep
                refine op_list (by rfl) ?_
                go_wp2
                exact withK_intro ⟨_, rfl, Below.refl _ _, HR.out, rfl⟩
            case hl9 =>
              intro vs wx hR hφ
              have HR := Lib.hid hR
              clear hR
              rw [fill_congr _ [32, 33, 34, 35, 36, 37, 38, 39, 40, 41, 42, 43, 44, 45, 46, 47, 48, 49, 50, 51] vs (fun j => ([.pointer (some ⟨fb, 0, none⟩), .pointer (some ⟨fb, 0, none⟩), .pointer (some ⟨fb, 0, none⟩), .pointer (some ⟨fb, 6, none⟩), .bool false, .bool false, .pointer (some ⟨fb, 0, none⟩), .pointer (some ⟨fb, 0, none⟩), .pointer (some ⟨fb, 7, none⟩), clV pb, .pointer (some ⟨bx, 2, none⟩), .string s, .pointer (some ⟨bx, 3, none⟩), .slice pa pl pc, .int .i64 pl, .bool false, .bool true, .bool true, .pointer (some ⟨fb, 0, none⟩), .pointer (some ⟨fb, 6, none⟩)] : List Value).getD j undef) (fun j hj => hφ j hj)]
              clear hφ vs
              have HN1 : Hid (n0 ≤ wx.heap.size) := Nat.le_trans HNR.out (Nat.le_trans HBL.out.size HR.out.size)
              refine op_store rfl rfl rfl 4 (.tmp 51) (.tmp 49) rfl ⟨fb, 6, none⟩ (.bool true) (eval_fill _ _ _ 19 51 (by decide) rfl rfl) (eval_fill _ _ _ 17 49 (by decide) rfl rfl) (run_store_bool _ _ _ false true (cellB' HR HD6.out) ((HR.out.frozen (p := ⟨fb, 6, none⟩) (lt_of_cell HD6.out)).trans HF6.out)) ?_
              simp only [fill, fillA, List.getD_cons_zero, List.getD_cons_succ, Nat.reduceAdd, List.setIfInBounds_toArray, List.set_cons_succ, List.set_cons_zero]
              have HFX := Lib.hid ((HFD.out.stay HR.out).set true)
              have HK4 : Hid (Fk n0 fb wr (wx.setCell ⟨fb, 6, none⟩ (.bool true))) := (Fk.of_below HNR.out (HBL.out.trans (HR.out.mono HBL.out.size))).trans (Fk.set HGE.out true)
              have HX4 : Hid ((wx.setCell ⟨fb, 6, none⟩ (.bool true)).heap[bx]? = _) := (Below.heap_setCell wx _ _ bx (by show bx ≠ fb; have := HFL.out; have := HBXN.out; omega)).trans ((HR.out.block bx (lt_of_heap HBX0.out)).trans HBX0.out)
              generalize wx.setCell ⟨fb, 6, none⟩ (.bool true) = w4 at HFX HK4 HX4 ⊢
              have x3 := cell_of_heap HX4.out 3
              go_wp2_with (go_at_call 54; refine (HOWN.out _ (HWB.out.trans (HK4.out.below.mono h0)) HFX.out (Nat.le_trans HNR.out HK4.out.size)).mono ?_; rintro e w5 ⟨rfl, hk5, hf5⟩; have HK5 := Lib.hid hk5; have HF5 := Lib.hid hf5; clear hk5 hf5)
              go_roundw
              case rel => exact ⟨k + 1, by go_num, by omega, HK.out.trans (HK4.out.trans HK5.out), HF5.out⟩
              case measure => simp [intOf]; omega
            case hr9 => exact (Below.refl _ _).drew
        · as_aux_lemma =>
          have hown : ET.own fs o s pl st1 = st1 := by
            unfold ET.own
            rw [if_neg (by simpa using g1), if_neg (by simpa using g2), if_neg (by simpa using g3)]
          rw [hown] at HOWN
          clear hown
          have HK4 : Hid (Fk n0 fb wr (wr.alloc (.cells #[.int .i64 o, .int .i64 n, .string s, .slice pa pl pc] 51))) := Fk.of_below HNR.out HBL.out
          have x3 := cell_of_heap HBX0.out 3
          go_wp2_with (go_at_call 54; refine (HOWN.out _ (HWB.out.trans (HK4.out.below.mono h0)) HFD.out (Nat.le_trans HNR.out HK4.out.size)).mono ?_; rintro e w5 ⟨rfl, hk5, hf5⟩; have HK5 := Lib.hid hk5; have HF5 := Lib.hid hf5; clear hk5 hf5)
          go_roundw
          case rel => exact ⟨k + 1, by go_num, by omega, HK.out.trans (HK4.out.trans HK5.out), HF5.out⟩
          case measure => simp [intOf]; omega
      · obtain rfl : k = l.length := by omega
        have hr := HR0.out
        rw [List.take_length] at hr
        have HR2 := Lib.hid hr
        clear hr
        go_wp2
        go_end0
        exact ⟨rfl, HK.out, HR2.out⟩
end Go.Proofs.YthjjcmmonjajhaaGreatDoor
