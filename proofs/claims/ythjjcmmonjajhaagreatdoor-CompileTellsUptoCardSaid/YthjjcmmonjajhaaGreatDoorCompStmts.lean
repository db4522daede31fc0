/- Statements are written. -/
import Derived.Test.YthjjcmmonjajhaaGreatDoorComps
import Derived.Maps.OwnSet
namespace Go.Proofs.YthjjcmmonjajhaaGreatDoor
open Go.RowKit Go.Sort Go.Maps
set_option linter.unusedVariables false

mutual
def ST.opB : ST → Bool
  | .mk o _ _ _ b e => decide (1 ≤ o ∧ o < 10) && (ST.opL b && ST.opL e)
def ST.opL : List ST → Bool
  | [] => true
  | e :: r => ST.opB e && ST.opL r
end
theorem ST.opL_iff (l : List ST) : ST.opL l = true ↔ ∀ i, i < l.length → (l.getD i default).opB = true := by
  induction l with
  | nil => simp [ST.opL]
  | cons e r ih =>
    simp only [ST.opL, Bool.and_eq_true, List.length_cons]
    rw [ih]
    constructor
    · rintro ⟨h1, h2⟩ i hi
      cases i with
      | zero => exact h1
      | succ i => exact h2 i (by omega)
    · intro h
      exact ⟨h 0 (by omega), fun i hi => h (i + 1) (by omega)⟩
theorem ST.opB_parts (e : ST) : e.opB = (decide (1 ≤ e.op ∧ e.op < 10) && (ST.opL e.body && ST.opL e.els)) := by cases e; rfl
mutual
theorem ST.opB_of : ∀ (e : ST) (d : Int), (e.nodes d).all (·.1) = true → e.opB = true
  | .mk o n s l b e, d, h => by
    simp only [ST.nodes, List.all_cons, List.all_append, Bool.and_eq_true] at h
    simp only [ST.opB, Bool.and_eq_true]
    refine ⟨?_, ST.opL_of b _ h.2.2.1, ST.opL_of e _ h.2.2.2⟩
    have := h.1
    unfold stmtB at this
    exact ((Bool.and_eq_true _ _).mp this).1
theorem ST.opL_of : ∀ (l : List ST) (d : Int), (ST.nodesL l d).all (·.1) = true → ST.opL l = true
  | [], _, _ => rfl
  | e :: r, d, h => by
    simp only [ST.nodesL, List.all_append, Bool.and_eq_true] at h
    simp only [ST.opL, Bool.and_eq_true]
    exact ⟨ST.opB_of e d h.1, ST.opL_of r d h.2⟩
end
/-- The map of statements whose instruction hangs on their op alone. -/
def simpleD : DataW Unit := .map [(.int .i64 5, .lit (.int .i64 19)), (.int .i64 6, .lit (.int .i64 20)), (.int .i64 9, .lit (.int .i64 18))]
def SmpAt (w : World) (mb mn : Nat) : Prop := w.cell? ⟨0, 0, none⟩ = some (.map (some mb)) ∧ w.ownsMap Tryz.prog 3 (plainElem Tryz.prog 3) mb mn simpleD
theorem SmpAt.stay {w w' : World} {mb mn : Nat} (h : SmpAt w mb mn) (hb : Below w.heap.size w w') : SmpAt w' mb mn :=
  ⟨(hb.cell (p := ⟨0, 0, none⟩) (lt_of_cell h.1)).trans h.1, h.2.kept (grown_of_below hb) (by simp)⟩
theorem lawInt : Keyed Tryz.prog 3 := int_keyed Tryz.underlying3
theorem zeroInt (w : World) : (zeroValue 3).run Tryz.prog w = .ok (.int .i64 0) w := by kernel_rfl
theorem SSl.shape0 {w : World} {v : Value} {l : List ST} (h : SSl w v l) : ∃ a cap, v = .slice a l.length cap := by cases h; exact ⟨_, _, rfl⟩
theorem ST.code_simple (all : List SC) (sc : SC) (o n : Int) (s : ByteArray) (l : List ET) (b e : List ST) (at_ : Nat) (h : ¬ (o = 7 ∨ o = 8)) : ST.code all sc (.mk o n s l b e) at_ = ET.codeL all sc l ++ [insS sc o n s] := by
  simp only [ST.code]; rw [if_neg h]
theorem ST.code_branch (all : List SC) (sc : SC) (o n : Int) (s : ByteArray) (l : List ET) (b e : List ST) (at_ : Nat) (h : o = 7 ∨ o = 8) (p : Nat) (hp : at_ + (ET.codeL all sc l).length = p) (bc ec : List VI) (hbc : ST.codeL all sc b (p + 1) = bc) (hec : ST.codeL all sc e (p + 1 + bc.length + 1) = ec) :
    ST.code all sc (.mk o n s l b e) at_ = ET.codeL all sc l ++ (if o = 7 then [⟨16, (p + 1 + bc.length + 1 : Nat), 0⟩] ++ bc ++ [⟨15, (p + 1 + bc.length + 1 + ec.length : Nat), 0⟩] ++ ec else [⟨16, (p + 1 + bc.length + 1 : Nat), 0⟩] ++ bc ++ [⟨15, (at_ : Nat), 0⟩]) := by
  subst hp hbc hec
  simp only [ST.code]; rw [if_pos h]
  split <;> simp

set_option maxHeartbeats 8000000 in
set_option maxRecDepth 1000000 in
theorem wstmts_in (w0 : World) {v : Value} {l : List ST} (h : SSl w0 v l) : ST.opL l = true → ∀ (n0 wb : Nat) (sc : SC) (all : List SC) (xa xb xc : Option Addr) (xn xm yn ym zn zm : Nat) (mb mn : Nat) (h0 : w0.heap.size ≤ n0)
    (hv : TSl w0 (.slice xa xn xm) sc.vars) (ha : TSl w0 (.slice xb yn ym) sc.arrays) (hs : CSl w0 (.slice xc zn zm) all) (hm : SmpAt w0 mb mn), Writes w0 n0 wb sc all xa xb xc xn xm yn ym zn zm v l := by
  induction h with
  | mk a b off cap l f g hh ha hc hm hcell hsub hsub1 hsub2 ih1 ih2 =>
    intro hop n0 wb sc all xa xb xc xn xm yn ym zn zm mb mn h0 hv hva hs hmm c0 W hB hw hn hl
    have HA := Lib.hid ha
    have HC := Lib.hid hcell
    have HIH1 := Lib.hid ih1
    have HIH2 := Lib.hid ih2
    have HSub := Lib.hid hsub
    have HSub1 := Lib.hid hsub1
    have HSub2 := Lib.hid hsub2
    have HOp := Lib.hid ((ST.opL_iff l).1 hop)
    have HB0 := Lib.hid hB
    have HW := Lib.hid hw
    have HL := Lib.hid hl
    have HV := Lib.hid hv
    have HVA := Lib.hid hva
    have HS := Lib.hid hs
    have HM := Lib.hid hmm
    have hm1 : cap ≤ 9223372036854775807 := hm
    clear ha hcell ih1 ih2 hsub hsub1 hsub2 hop hB hw hm hl hv hva hs hmm
    go_enter Tryz.func12, Tryz.ntmps12
    go_wp2
    go_loopw [10] (fun i wr => ∃ k : Nat, i = .int .i64 k ∧ k ≤ l.length ∧ Hid (Wk n0 wb W wr) ∧ Hid (Wr n0 wr wb sc (.slice xa xn xm) (.slice xb yn ym) (.slice xc zn zm) (c0 ++ ST.codeL all sc (l.take k) c0.length))) (fun i _ => l.length - (intOf i).toNat)
    case atStart => exact ⟨0, rfl, by omega, Wk.refl _ _ _, by show Wr _ _ _ _ _ _ _ _; rw [List.take_zero]; simp only [ST.codeL, List.append_nil]; exact HW.out⟩
    case round =>
      obtain ⟨k, rfl, hk, HK, HR⟩ := hrel
      by_cases hlt : k < l.length
      · obtain rfl := HA.out (by omega)
        obtain ⟨e0, e1, e2, e3, e4, e5⟩ := HC.out k hlt
        have WB : Below w0.heap.size w0 wr := HB0.out.trans (HK.out.below.mono h0)
        have hz : b < w0.heap.size := lt_of_cell e0
        replace e0 := (WB.cell (p := ⟨b, off + k * 6, none⟩) hz).trans e0
        replace e1 := (WB.cell (p := ⟨b, off + k * 6 + 1, none⟩) hz).trans e1
        replace e2 := (WB.cell (p := ⟨b, off + k * 6 + 2, none⟩) hz).trans e2
        replace e3 := (WB.cell (p := ⟨b, off + k * 6 + 3, none⟩) hz).trans e3
        replace e4 := (WB.cell (p := ⟨b, off + k * 6 + 4, none⟩) hz).trans e4
        replace e5 := (WB.cell (p := ⟨b, off + k * 6 + 5, none⟩) hz).trans e5
        have HI1 := Lib.hid (HIH1.out k hlt)
        have HI2 := Lib.hid (HIH2.out k hlt)
        have HE := Lib.hid (HSub.out k hlt)
        have hT := ST.codeL_take all sc l c0.length k hlt
        have hle := ST.codeL_le all sc l c0.length (k + 1)
        have hO := (ST.opB_parts (l.getD k default)).symm.trans (HOp.out k hlt)
        have hsh := (HSub.out k hlt).shape0
        have hsh1 := (HSub1.out k hlt).shape0
        have hsh2 := (HSub2.out k hlt).shape0
        generalize l.getD k default = x at e0 e1 e2 hT hO HI1 HI2 HE hsh hsh1 hsh2
        generalize f k = pv at e3 HE hsh
        generalize g k = pv1 at e4 HI1 hsh1
        generalize hh k = pv2 at e5 HI2 hsh2
        obtain ⟨o, n, s, ps, bs, es⟩ := x
        simp only [ST.op, ST.num, ST.name, ST.parts, ST.body, ST.els] at e0 e1 e2 hO HI1 HI2 HE hsh hsh1 hsh2
        obtain ⟨pa, pc, rfl⟩ := hsh
        obtain ⟨ba, bc, rfl⟩ := hsh1
        obtain ⟨ea, ec, rfl⟩ := hsh2
        have hob := (Bool.and_eq_true _ _).mp ((Bool.and_eq_true _ _).mp hO).2
        have ho := of_decide_eq_true ((Bool.and_eq_true _ _).mp hO).1
        obtain ⟨hob, hoe⟩ := hob
        clear hO
        have HOB := Lib.hid hob
        have HOE := Lib.hid hoe
        have hlen : (ST.codeL all sc (l.take (k + 1)) c0.length).length = (ST.codeL all sc (l.take k) c0.length).length + (ST.code all sc (.mk o n s ps bs es) (c0.length + (ST.codeL all sc (l.take k) c0.length).length)).length := by rw [hT, List.length_append]
        have hcl : c0.length + (ST.codeL all sc (l.take k) c0.length).length = (c0 ++ ST.codeL all sc (l.take k) c0.length).length := by simp
        rw [hcl] at hT hlen
        have HL1 : Hid ((c0 ++ ST.codeL all sc (l.take k) c0.length).length + (ST.code all sc (.mk o n s ps bs es) (c0 ++ ST.codeL all sc (l.take k) c0.length).length).length ≤ 4194304) := by
          show _ ≤ _
          have := HL.out
          omega
        have HTT : Hid (c0 ++ ST.codeL all sc (l.take (k + 1)) c0.length = (c0 ++ ST.codeL all sc (l.take k) c0.length) ++ ST.code all sc (.mk o n s ps bs es) (c0 ++ ST.codeL all sc (l.take k) c0.length).length) := by show _ = _; rw [hT]; simp
        have HWB := Lib.hid WB
        have HNR : Hid (n0 ≤ wr.heap.size) := Nat.le_trans hn HK.out.size
        have HWL := Lib.hid HR.out.lt
        generalize c0 ++ ST.codeL all sc (l.take k) c0.length = cs at HR HL1 HTT
        clear hT hle hlen hcl hob hoe WB hz
        obtain ⟨lv, hbx, how⟩ := HR.out.box
        obtain ⟨la, lc, rfl⟩ := own_shape how
        clear how
        have hbl : Below wr.heap.size wr (wr.alloc (.cells #[.int .i64 o, .string s, .int .i64 n, .slice pa ps.length pc, .slice ba bs.length bc, .slice ea es.length ec] 54)) := (Below.refl _ _).alloc (Nat.le_refl _) _
        have HBL := Lib.hid hbl
        have c5 := cell_of_heap ((hbl.block wb HWL.out).trans hbx) 5
        clear hbl hbx
        have hcl : (ET.codeL all sc ps).length ≤ (ST.code all sc (.mk o n s ps bs es) cs.length).length := by
          simp only [ST.code]; split
          · split <;> simp only [List.length_append] <;> omega
          · simp only [List.length_append]; omega
        have HLE : Hid (cs.length + (ET.codeL all sc ps).length ≤ 4194304) := by show _ ≤ _; have := HL1.out; omega
        clear hcl
        go_wp2_with fail
        refine (wexprs_in w0 HE.out n0 wb sc all xa xb xc xn xm yn ym zn zm cs _ (HWB.out.trans (HBL.out.mono HWB.out.size)) h0 (HR.out.stay HBL.out) (Nat.le_trans HNR.out HBL.out.size) HLE.out HV.out HVA.out HS.out).mono ?_
        rintro e w2 ⟨rfl, hk2, hr2⟩
        have HBX := Lib.hid (hk2.box HWL.out (by decide))
        have HK2 : Hid (Wk n0 wb wr w2) := (Wk.of_below HNR.out HBL.out).trans hk2
        have HR2 := Lib.hid hr2
        have HW2 : Hid (Below w0.heap.size w0 w2) := HWB.out.trans (HK2.out.below.mono h0)
        have HN2 : Hid (n0 ≤ w2.heap.size) := Nat.le_trans HNR.out HK2.out.size
        have HL2 : Hid ((cs ++ ET.codeL all sc ps).length ≤ 4194304) := by show _ ≤ _; rw [List.length_append]; exact HLE.out
        have q0 := cell_of_heap HBX.out 0
        clear hk2 hr2 c5 e0 e1 e2 e3 e4 e5
        generalize hbxn : wr.heap.size = bx at HBX q0 ⊢
        have ho9 : o = 1 ∨ o = 2 ∨ o = 3 ∨ o = 4 ∨ o = 5 ∨ o = 6 ∨ o = 9 ∨ (o = 7 ∨ o = 8) := by omega
        clear ho hbxn
        rcases ho9 with rfl | rfl | rfl | rfl | rfl | rfl | rfl | ho
        · as_aux_lemma =>
          obtain ⟨q, hq⟩ : ∃ q, slotI sc.vars s = q := ⟨_, rfl⟩
          have HCF := Lib.hid HR2.out.cells.1
          have HB2 := Lib.hid (cell_of_heap HBX.out 1)
          have HB3 := Lib.hid (cell_of_heap HBX.out 2)
          have HCC : Hid (ST.code all sc (.mk 1 n s ps bs es) cs.length = ET.codeL all sc ps ++ [⟨3, q, 0⟩]) := (ST.code_simple all sc 1 n s ps bs es _ (by omega)).trans (by rw [← hq]; rfl)
          have HQ := Lib.hid hq
          clear hq
          go_upto_region 8 with fail
          refine region_flow rfl 9 rfl (by decide +kernel) [33, 34, 35, 36, 37, 38, 39, 40, 41] (by decide +kernel) rfl (by decide) (by simp) (fun w w' => Below w.heap.size w w') (fun w => Below w2.heap.size w2 w)
            (fun j v _ => v = ([.pointer (some ⟨wb, 0, none⟩), .pointer (some ⟨wb, 0, none⟩), .pointer (some ⟨wb, 0, none⟩), .pointer (some ⟨wb, 0, none⟩), .pointer (some ⟨wb, 2, none⟩), .slice xa xn xm, .pointer (some ⟨bx, 1, none⟩), .string s, .int .i64 q] : List Value).getD j undef) (fun _ _ _ _ _ h => h) ?hr8 ?hs8 ?hl8
          case hs8 =>
            intro ix hix a wx hR hout hdep
            have hix' : ix = 0 ∨ ix = 1 ∨ ix = 2 ∨ ix = 3 ∨ ix = 4 ∨ ix = 5 ∨ ix = 6 ∨ ix = 7 ∨ ix = 8 := by omega
            rcases hix' with rfl | rfl | rfl | rfl | rfl | rfl | rfl | rfl | rfl
            · have HR := Lib.hid hR
              clear hR
              have e0 := hout 0 (by decide)
              clear hout hdep
              refine op_list (by rfl) ?_
              go_wp2
              exact withK_intro ⟨_, rfl, Below.refl _ _, HR.out, rfl⟩
            · have HR := Lib.hid hR
              clear hR
              have e0 := hout 0 (by decide)
              clear hout hdep
              refine op_list (by rfl) ?_
              go_wp2
              exact withK_intro ⟨_, rfl, Below.refl _ _, HR.out, rfl⟩
            · have HR := Lib.hid hR
              clear hR
              have e34 : a.tmps[34]? = some (.pointer (some ⟨wb, 0, none⟩)) := flow_dep hdep 1 34 (by kernel_rfl) rfl
              clear hout hdep
              refine op_list (by rfl) ?_
              go_wp2
              exact withK_intro ⟨_, rfl, Below.refl _ _, HR.out, rfl⟩
            · have HR := Lib.hid hR
              clear hR
              have e35 : a.tmps[35]? = some (.pointer (some ⟨wb, 0, none⟩)) := flow_dep hdep 2 35 (by kernel_rfl) rfl
              clear hout hdep
              refine op_list (by rfl) ?_
              go_wp2
              exact withK_intro ⟨_, rfl, Below.refl _ _, HR.out, rfl⟩
            · have HR := Lib.hid hR
              clear hR
              have e36 : a.tmps[36]? = some (.pointer (some ⟨wb, 0, none⟩)) := flow_dep hdep 3 36 (by kernel_rfl) rfl
              clear hout hdep
              refine op_list (by rfl) ?_
              go_wp2
              exact withK_intro ⟨_, rfl, Below.refl _ _, HR.out, rfl⟩
            · have HR := Lib.hid hR
              clear hR
              have e37 : a.tmps[37]? = some (.pointer (some ⟨wb, 2, none⟩)) := flow_dep hdep 4 37 (by kernel_rfl) rfl
              have c2 := cellB HR HCF.out
              clear hout hdep
              refine op_list (by rfl) ?_
              go_wp2
              exact withK_intro ⟨_, rfl, Below.refl _ _, HR.out, rfl⟩
            · have HR := Lib.hid hR
              clear hR
              have e5 := hout 5 (by decide)
              clear hout hdep
              refine op_list (by rfl) ?_
              go_wp2
              exact withK_intro ⟨_, rfl, Below.refl _ _, HR.out, rfl⟩
            · have HR := Lib.hid hR
              clear hR
              have e39 : a.tmps[39]? = some (.pointer (some ⟨bx, 1, none⟩)) := flow_dep hdep 6 39 (by kernel_rfl) rfl
              have b2 := cellB HR HB2.out
              clear hout hdep
              refine op_list (by rfl) ?_
              go_wp2
              exact withK_intro ⟨_, rfl, Below.refl _ _, HR.out, rfl⟩
            · have HR := Lib.hid hR
              clear hR
              have e38 : a.tmps[38]? = some (.slice xa xn xm) := flow_dep hdep 5 38 (by kernel_rfl) rfl
              have e40 : a.tmps[40]? = some (.string s) := flow_dep hdep 7 40 (by kernel_rfl) rfl
              clear hout hdep
              refine op_list (by rfl) ?_
              go_wp2_with (go_at_call 30; refine (slot_r _ sc.vars s _ (HV.out.stay (hb_step HW2 HR.out)) _ HQ.out).mono ?_; rintro e w' ⟨rfl, rfl⟩)
              exact withK_intro ⟨_, rfl, Below.refl _ _, HR.out, rfl⟩
          case hl8 =>
            intro vs wx hR hφ
            have HR := Lib.hid hR
            clear hR
            rw [fill_congr _ [33, 34, 35, 36, 37, 38, 39, 40, 41] vs (fun j => ([.pointer (some ⟨wb, 0, none⟩), .pointer (some ⟨wb, 0, none⟩), .pointer (some ⟨wb, 0, none⟩), .pointer (some ⟨wb, 0, none⟩), .pointer (some ⟨wb, 2, none⟩), .slice xa xn xm, .pointer (some ⟨bx, 1, none⟩), .string s, .int .i64 q] : List Value).getD j undef) (fun j hj => hφ j hj)]
            clear hφ vs
            refine op_list (by rfl) ?_
            simp only [fill, fillA, List.getD_cons_zero, List.getD_cons_succ, Nat.reduceAdd]
            go_wp2_with (go_at_call 13; refine (put_r n0 wb sc (.slice xa xn xm) (.slice xb yn ym) (.slice xc zn zm) (cs ++ ET.codeL all sc ps) 3 q 0 _ (HR2.out.stay HR.out) HL2.out).mono ?_; rintro e w' ⟨rfl, hk, hr⟩; have HK3 := Lib.hid hk; have HR3 := Lib.hid hr; clear hk hr)
            refine withK_intro ?_
            go_wp2
            go_roundw
            case rel => exact ⟨k + 1, by go_num, by omega, (HK.out.trans HK2.out).trans ((Wk.of_below HN2.out HR.out).trans HK3.out), by show Wr _ _ _ _ _ _ _ _; rw [HTT.out, HCC.out, ← List.append_assoc]; exact HR3.out⟩
            case measure => simp [intOf]; omega
          case hr8 => exact (Below.refl _ _).drew
        · as_aux_lemma =>
          obtain ⟨q, hq⟩ : ∃ q, slotI sc.arrays s = q := ⟨_, rfl⟩
          have HCF := Lib.hid HR2.out.cells.2.1
          have HB2 := Lib.hid (cell_of_heap HBX.out 1)
          have HB3 := Lib.hid (cell_of_heap HBX.out 2)
          have HCC : Hid (ST.code all sc (.mk 2 n s ps bs es) cs.length = ET.codeL all sc ps ++ [⟨24, q, 0⟩]) := (ST.code_simple all sc 2 n s ps bs es _ (by omega)).trans (by rw [← hq]; rfl)
          have HQ := Lib.hid hq
          clear hq
          go_upto_region 10 with fail
          refine region_flow rfl 9 rfl (by decide +kernel) [45, 46, 47, 48, 49, 50, 51, 52, 53] (by decide +kernel) rfl (by decide) (by simp) (fun w w' => Below w.heap.size w w') (fun w => Below w2.heap.size w2 w)
            (fun j v _ => v = ([.pointer (some ⟨wb, 0, none⟩), .pointer (some ⟨wb, 0, none⟩), .pointer (some ⟨wb, 0, none⟩), .pointer (some ⟨wb, 0, none⟩), .pointer (some ⟨wb, 3, none⟩), .slice xb yn ym, .pointer (some ⟨bx, 1, none⟩), .string s, .int .i64 q] : List Value).getD j undef) (fun _ _ _ _ _ h => h) ?hr10 ?hs10 ?hl10
          case hs10 =>
            intro ix hix a wx hR hout hdep
            have hix' : ix = 0 ∨ ix = 1 ∨ ix = 2 ∨ ix = 3 ∨ ix = 4 ∨ ix = 5 ∨ ix = 6 ∨ ix = 7 ∨ ix = 8 := by omega
            rcases hix' with rfl | rfl | rfl | rfl | rfl | rfl | rfl | rfl | rfl
            · have HR := Lib.hid hR
              clear hR
              have e0 := hout 0 (by decide)
              clear hout hdep
              refine op_list (by rfl) ?_
              go_wp2
              exact withK_intro ⟨_, rfl, Below.refl _ _, HR.out, rfl⟩
            · have HR := Lib.hid hR
              clear hR
              have e0 := hout 0 (by decide)
              clear hout hdep
              refine op_list (by rfl) ?_
              go_wp2
              exact withK_intro ⟨_, rfl, Below.refl _ _, HR.out, rfl⟩
            · have HR := Lib.hid hR
              clear hR
              have e46 : a.tmps[46]? = some (.pointer (some ⟨wb, 0, none⟩)) := flow_dep hdep 1 46 (by kernel_rfl) rfl
              clear hout hdep
              refine op_list (by rfl) ?_
              go_wp2
              exact withK_intro ⟨_, rfl, Below.refl _ _, HR.out, rfl⟩
            · have HR := Lib.hid hR
              clear hR
              have e47 : a.tmps[47]? = some (.pointer (some ⟨wb, 0, none⟩)) := flow_dep hdep 2 47 (by kernel_rfl) rfl
              clear hout hdep
              refine op_list (by rfl) ?_
              go_wp2
              exact withK_intro ⟨_, rfl, Below.refl _ _, HR.out, rfl⟩
            · have HR := Lib.hid hR
              clear hR
              have e48 : a.tmps[48]? = some (.pointer (some ⟨wb, 0, none⟩)) := flow_dep hdep 3 48 (by kernel_rfl) rfl
              clear hout hdep
              refine op_list (by rfl) ?_
              go_wp2
              exact withK_intro ⟨_, rfl, Below.refl _ _, HR.out, rfl⟩
            · have HR := Lib.hid hR
              clear hR
              have e49 : a.tmps[49]? = some (.pointer (some ⟨wb, 3, none⟩)) := flow_dep hdep 4 49 (by kernel_rfl) rfl
              have c2 := cellB HR HCF.out
              clear hout hdep
              refine op_list (by rfl) ?_
              go_wp2
              exact withK_intro ⟨_, rfl, Below.refl _ _, HR.out, rfl⟩
            · have HR := Lib.hid hR
              clear hR
              have e5 := hout 5 (by decide)
              clear hout hdep
              refine op_list (by rfl) ?_
              go_wp2
              exact withK_intro ⟨_, rfl, Below.refl _ _, HR.out, rfl⟩
            · have HR := Lib.hid hR
              clear hR
              have e51 : a.tmps[51]? = some (.pointer (some ⟨bx, 1, none⟩)) := flow_dep hdep 6 51 (by kernel_rfl) rfl
              have b2 := cellB HR HB2.out
              clear hout hdep
              refine op_list (by rfl) ?_
              go_wp2
              exact withK_intro ⟨_, rfl, Below.refl _ _, HR.out, rfl⟩
            · have HR := Lib.hid hR
              clear hR
              have e50 : a.tmps[50]? = some (.slice xb yn ym) := flow_dep hdep 5 50 (by kernel_rfl) rfl
              have e52 : a.tmps[52]? = some (.string s) := flow_dep hdep 7 52 (by kernel_rfl) rfl
              clear hout hdep
              refine op_list (by rfl) ?_
              go_wp2_with (go_at_call 30; refine (slot_r _ sc.arrays s _ (HVA.out.stay (hb_step HW2 HR.out)) _ HQ.out).mono ?_; rintro e w' ⟨rfl, rfl⟩)
              exact withK_intro ⟨_, rfl, Below.refl _ _, HR.out, rfl⟩
          case hl10 =>
            intro vs wx hR hφ
            have HR := Lib.hid hR
            clear hR
            rw [fill_congr _ [45, 46, 47, 48, 49, 50, 51, 52, 53] vs (fun j => ([.pointer (some ⟨wb, 0, none⟩), .pointer (some ⟨wb, 0, none⟩), .pointer (some ⟨wb, 0, none⟩), .pointer (some ⟨wb, 0, none⟩), .pointer (some ⟨wb, 3, none⟩), .slice xb yn ym, .pointer (some ⟨bx, 1, none⟩), .string s, .int .i64 q] : List Value).getD j undef) (fun j hj => hφ j hj)]
            clear hφ vs
            refine op_list (by rfl) ?_
            simp only [fill, fillA, List.getD_cons_zero, List.getD_cons_succ, Nat.reduceAdd]
            go_wp2_with (go_at_call 13; refine (put_r n0 wb sc (.slice xa xn xm) (.slice xb yn ym) (.slice xc zn zm) (cs ++ ET.codeL all sc ps) 24 q 0 _ (HR2.out.stay HR.out) HL2.out).mono ?_; rintro e w' ⟨rfl, hk, hr⟩; have HK3 := Lib.hid hk; have HR3 := Lib.hid hr; clear hk hr)
            refine withK_intro ?_
            go_wp2
            go_roundw
            case rel => exact ⟨k + 1, by go_num, by omega, (HK.out.trans HK2.out).trans ((Wk.of_below HN2.out HR.out).trans HK3.out), by show Wr _ _ _ _ _ _ _ _; rw [HTT.out, HCC.out, ← List.append_assoc]; exact HR3.out⟩
            case measure => simp [intOf]; omega
          case hr10 => exact (Below.refl _ _).drew
        · as_aux_lemma =>
          obtain ⟨q, hq⟩ : ∃ q, slotI sc.arrays s = q := ⟨_, rfl⟩
          have HCF := Lib.hid HR2.out.cells.2.1
          have HB2 := Lib.hid (cell_of_heap HBX.out 1)
          have HB3 := Lib.hid (cell_of_heap HBX.out 2)
          have HCC : Hid (ST.code all sc (.mk 3 n s ps bs es) cs.length = ET.codeL all sc ps ++ [⟨22, q, n⟩]) := (ST.code_simple all sc 3 n s ps bs es _ (by omega)).trans (by rw [← hq]; rfl)
          have HQ := Lib.hid hq
          clear hq
          go_upto_region 12 with fail
          refine region_flow rfl 11 rfl (by decide +kernel) [57, 58, 59, 60, 61, 62, 63, 64, 65, 66, 67] (by decide +kernel) rfl (by decide) (by simp) (fun w w' => Below w.heap.size w w') (fun w => Below w2.heap.size w2 w)
            (fun j v _ => v = ([.pointer (some ⟨wb, 0, none⟩), .pointer (some ⟨wb, 0, none⟩), .pointer (some ⟨wb, 0, none⟩), .pointer (some ⟨wb, 0, none⟩), .pointer (some ⟨wb, 3, none⟩), .slice xb yn ym, .pointer (some ⟨bx, 1, none⟩), .string s, .int .i64 q, .pointer (some ⟨bx, 2, none⟩), .int .i64 n] : List Value).getD j undef) (fun _ _ _ _ _ h => h) ?hr12 ?hs12 ?hl12
          case hs12 =>
            intro ix hix a wx hR hout hdep
            have hix' : ix = 0 ∨ ix = 1 ∨ ix = 2 ∨ ix = 3 ∨ ix = 4 ∨ ix = 5 ∨ ix = 6 ∨ ix = 7 ∨ ix = 8 ∨ ix = 9 ∨ ix = 10 := by omega
            rcases hix' with rfl | rfl | rfl | rfl | rfl | rfl | rfl | rfl | rfl | rfl | rfl
            · have HR := Lib.hid hR
              clear hR
              have e0 := hout 0 (by decide)
              clear hout hdep
              refine op_list (by rfl) ?_
              go_wp2
              exact withK_intro ⟨_, rfl, Below.refl _ _, HR.out, rfl⟩
            · have HR := Lib.hid hR
              clear hR
              have e0 := hout 0 (by decide)
              clear hout hdep
              refine op_list (by rfl) ?_
              go_wp2
              exact withK_intro ⟨_, rfl, Below.refl _ _, HR.out, rfl⟩
            · have HR := Lib.hid hR
              clear hR
              have e58 : a.tmps[58]? = some (.pointer (some ⟨wb, 0, none⟩)) := flow_dep hdep 1 58 (by kernel_rfl) rfl
              clear hout hdep
              refine op_list (by rfl) ?_
              go_wp2
              exact withK_intro ⟨_, rfl, Below.refl _ _, HR.out, rfl⟩
            · have HR := Lib.hid hR
              clear hR
              have e59 : a.tmps[59]? = some (.pointer (some ⟨wb, 0, none⟩)) := flow_dep hdep 2 59 (by kernel_rfl) rfl
              clear hout hdep
              refine op_list (by rfl) ?_
              go_wp2
              exact withK_intro ⟨_, rfl, Below.refl _ _, HR.out, rfl⟩
            · have HR := Lib.hid hR
              clear hR
              have e60 : a.tmps[60]? = some (.pointer (some ⟨wb, 0, none⟩)) := flow_dep hdep 3 60 (by kernel_rfl) rfl
              clear hout hdep
              refine op_list (by rfl) ?_
              go_wp2
              exact withK_intro ⟨_, rfl, Below.refl _ _, HR.out, rfl⟩
            · have HR := Lib.hid hR
              clear hR
              have e61 : a.tmps[61]? = some (.pointer (some ⟨wb, 3, none⟩)) := flow_dep hdep 4 61 (by kernel_rfl) rfl
              have c2 := cellB HR HCF.out
              clear hout hdep
              refine op_list (by rfl) ?_
              go_wp2
              exact withK_intro ⟨_, rfl, Below.refl _ _, HR.out, rfl⟩
            · have HR := Lib.hid hR
              clear hR
              have e5 := hout 5 (by decide)
              clear hout hdep
              refine op_list (by rfl) ?_
              go_wp2
              exact withK_intro ⟨_, rfl, Below.refl _ _, HR.out, rfl⟩
            · have HR := Lib.hid hR
              clear hR
              have e63 : a.tmps[63]? = some (.pointer (some ⟨bx, 1, none⟩)) := flow_dep hdep 6 63 (by kernel_rfl) rfl
              have b2 := cellB HR HB2.out
              clear hout hdep
              refine op_list (by rfl) ?_
              go_wp2
              exact withK_intro ⟨_, rfl, Below.refl _ _, HR.out, rfl⟩
            · have HR := Lib.hid hR
              clear hR
              have e62 : a.tmps[62]? = some (.slice xb yn ym) := flow_dep hdep 5 62 (by kernel_rfl) rfl
              have e64 : a.tmps[64]? = some (.string s) := flow_dep hdep 7 64 (by kernel_rfl) rfl
              clear hout hdep
              refine op_list (by rfl) ?_
              go_wp2_with (go_at_call 30; refine (slot_r _ sc.arrays s _ (HVA.out.stay (hb_step HW2 HR.out)) _ HQ.out).mono ?_; rintro e w' ⟨rfl, rfl⟩)
              exact withK_intro ⟨_, rfl, Below.refl _ _, HR.out, rfl⟩
            · have HR := Lib.hid hR
              clear hR
              have e5 := hout 5 (by decide)
              clear hout hdep
              refine op_list (by rfl) ?_
              go_wp2
              exact withK_intro ⟨_, rfl, Below.refl _ _, HR.out, rfl⟩
            · have HR := Lib.hid hR
              clear hR
              have e66 : a.tmps[66]? = some (.pointer (some ⟨bx, 2, none⟩)) := flow_dep hdep 9 66 (by kernel_rfl) rfl
              have b3 := cellB HR HB3.out
              clear hout hdep
              refine op_list (by rfl) ?_
              go_wp2
              exact withK_intro ⟨_, rfl, Below.refl _ _, HR.out, rfl⟩
          case hl12 =>
            intro vs wx hR hφ
            have HR := Lib.hid hR
            clear hR
            rw [fill_congr _ [57, 58, 59, 60, 61, 62, 63, 64, 65, 66, 67] vs (fun j => ([.pointer (some ⟨wb, 0, none⟩), .pointer (some ⟨wb, 0, none⟩), .pointer (some ⟨wb, 0, none⟩), .pointer (some ⟨wb, 0, none⟩), .pointer (some ⟨wb, 3, none⟩), .slice xb yn ym, .pointer (some ⟨bx, 1, none⟩), .string s, .int .i64 q, .pointer (some ⟨bx, 2, none⟩), .int .i64 n] : List Value).getD j undef) (fun j hj => hφ j hj)]
            clear hφ vs
            refine op_list (by rfl) ?_
            simp only [fill, fillA, List.getD_cons_zero, List.getD_cons_succ, Nat.reduceAdd]
            go_wp2_with (go_at_call 13; refine (put_r n0 wb sc (.slice xa xn xm) (.slice xb yn ym) (.slice xc zn zm) (cs ++ ET.codeL all sc ps) 22 q n _ (HR2.out.stay HR.out) HL2.out).mono ?_; rintro e w' ⟨rfl, hk, hr⟩; have HK3 := Lib.hid hk; have HR3 := Lib.hid hr; clear hk hr)
            refine withK_intro ?_
            go_wp2
            go_roundw
            case rel => exact ⟨k + 1, by go_num, by omega, (HK.out.trans HK2.out).trans ((Wk.of_below HN2.out HR.out).trans HK3.out), by show Wr _ _ _ _ _ _ _ _; rw [HTT.out, HCC.out, ← List.append_assoc]; exact HR3.out⟩
            case measure => simp [intOf]; omega
          case hr12 => exact (Below.refl _ _).drew
        · as_aux_lemma =>
          obtain ⟨q, hq⟩ : ∃ q, slotI sc.vars s = q := ⟨_, rfl⟩
          have HCF := Lib.hid HR2.out.cells.1
          have HB2 := Lib.hid (cell_of_heap HBX.out 1)
          have HB3 := Lib.hid (cell_of_heap HBX.out 2)
          have q1 := HB2.out
          obtain ⟨sec, hsec⟩ : ∃ z, secretB s = z := ⟨_, rfl⟩
          obtain ⟨sn, hsn⟩ : ∃ z : Int, (if sec then 1 else 0) = z := ⟨_, rfl⟩
          have HCC : Hid (ST.code all sc (.mk 4 n s ps bs es) cs.length = ET.codeL all sc ps ++ [⟨21, q, sn⟩]) := (ST.code_simple all sc 4 n s ps bs es _ (by omega)).trans (by rw [← hq, ← hsn, ← hsec]; rfl)
          have HQ := Lib.hid hq
          have HSec := Lib.hid hsec
          clear hq hsec
          cases sec
          · obtain rfl : sn = 0 := hsn.symm
            clear hsn
            go_upto_region 17 with (go_at_call 31; refine (secret_r s _ _ HSec.out).mono ?_; rintro e w' ⟨rfl, hw⟩; have hw2 := hw.symm; clear hw; subst hw2)
            refine region_flow rfl 10 rfl (by decide +kernel) [74, 75, 76, 77, 78, 79, 80, 81, 82, 83] (by decide +kernel) rfl (by decide) (by simp) (fun w w' => Below w.heap.size w w') (fun w => Below w2.heap.size w2 w)
              (fun j v _ => v = ([.pointer (some ⟨wb, 0, none⟩), .pointer (some ⟨wb, 0, none⟩), .pointer (some ⟨wb, 0, none⟩), .pointer (some ⟨wb, 0, none⟩), .pointer (some ⟨wb, 2, none⟩), .slice xa xn xm, .pointer (some ⟨bx, 1, none⟩), .string s, .int .i64 q, .int .i64 0] : List Value).getD j undef) (fun _ _ _ _ _ h => h) ?hr17 ?hs17 ?hl17
            case hs17 =>
              intro ix hix a wx hR hout hdep
              have hix' : ix = 0 ∨ ix = 1 ∨ ix = 2 ∨ ix = 3 ∨ ix = 4 ∨ ix = 5 ∨ ix = 6 ∨ ix = 7 ∨ ix = 8 ∨ ix = 9 := by omega
              rcases hix' with rfl | rfl | rfl | rfl | rfl | rfl | rfl | rfl | rfl | rfl
              · have HR := Lib.hid hR
                clear hR
                have e0 := hout 0 (by decide)
                clear hout hdep
                refine op_list (by rfl) ?_
                go_wp2
                exact withK_intro ⟨_, rfl, Below.refl _ _, HR.out, rfl⟩
              · have HR := Lib.hid hR
                clear hR
                have e0 := hout 0 (by decide)
                clear hout hdep
                refine op_list (by rfl) ?_
                go_wp2
                exact withK_intro ⟨_, rfl, Below.refl _ _, HR.out, rfl⟩
              · have HR := Lib.hid hR
                clear hR
                have e75 : a.tmps[75]? = some (.pointer (some ⟨wb, 0, none⟩)) := flow_dep hdep 1 75 (by kernel_rfl) rfl
                clear hout hdep
                refine op_list (by rfl) ?_
                go_wp2
                exact withK_intro ⟨_, rfl, Below.refl _ _, HR.out, rfl⟩
              · have HR := Lib.hid hR
                clear hR
                have e76 : a.tmps[76]? = some (.pointer (some ⟨wb, 0, none⟩)) := flow_dep hdep 2 76 (by kernel_rfl) rfl
                clear hout hdep
                refine op_list (by rfl) ?_
                go_wp2
                exact withK_intro ⟨_, rfl, Below.refl _ _, HR.out, rfl⟩
              · have HR := Lib.hid hR
                clear hR
                have e77 : a.tmps[77]? = some (.pointer (some ⟨wb, 0, none⟩)) := flow_dep hdep 3 77 (by kernel_rfl) rfl
                clear hout hdep
                refine op_list (by rfl) ?_
                go_wp2
                exact withK_intro ⟨_, rfl, Below.refl _ _, HR.out, rfl⟩
              · have HR := Lib.hid hR
                clear hR
                have e78 : a.tmps[78]? = some (.pointer (some ⟨wb, 2, none⟩)) := flow_dep hdep 4 78 (by kernel_rfl) rfl
                have c2 := cellB HR HCF.out
                clear hout hdep
                refine op_list (by rfl) ?_
                go_wp2
                exact withK_intro ⟨_, rfl, Below.refl _ _, HR.out, rfl⟩
              · have HR := Lib.hid hR
                clear hR
                have e5 := hout 5 (by decide)
                clear hout hdep
                refine op_list (by rfl) ?_
                go_wp2
                exact withK_intro ⟨_, rfl, Below.refl _ _, HR.out, rfl⟩
              · have HR := Lib.hid hR
                clear hR
                have e80 : a.tmps[80]? = some (.pointer (some ⟨bx, 1, none⟩)) := flow_dep hdep 6 80 (by kernel_rfl) rfl
                have b2 := cellB HR HB2.out
                clear hout hdep
                refine op_list (by rfl) ?_
                go_wp2
                exact withK_intro ⟨_, rfl, Below.refl _ _, HR.out, rfl⟩
              · have HR := Lib.hid hR
                clear hR
                have e79 : a.tmps[79]? = some (.slice xa xn xm) := flow_dep hdep 5 79 (by kernel_rfl) rfl
                have e81 : a.tmps[81]? = some (.string s) := flow_dep hdep 7 81 (by kernel_rfl) rfl
                clear hout hdep
                refine op_list (by rfl) ?_
                go_wp2_with (go_at_call 30; refine (slot_r _ sc.vars s _ (HV.out.stay (hb_step HW2 HR.out)) _ HQ.out).mono ?_; rintro e w' ⟨rfl, rfl⟩)
                exact withK_intro ⟨_, rfl, Below.refl _ _, HR.out, rfl⟩
              · have HR := Lib.hid hR
                clear hR
                have e7 := hout 7 (by decide)
                clear hout hdep
                refine op_list (by rfl) ?_
                go_wp2
                exact withK_intro ⟨_, rfl, Below.refl _ _, HR.out, rfl⟩
            case hl17 =>
              intro vs wx hR hφ
              have HR := Lib.hid hR
              clear hR
              rw [fill_congr _ [74, 75, 76, 77, 78, 79, 80, 81, 82, 83] vs (fun j => ([.pointer (some ⟨wb, 0, none⟩), .pointer (some ⟨wb, 0, none⟩), .pointer (some ⟨wb, 0, none⟩), .pointer (some ⟨wb, 0, none⟩), .pointer (some ⟨wb, 2, none⟩), .slice xa xn xm, .pointer (some ⟨bx, 1, none⟩), .string s, .int .i64 q, .int .i64 0] : List Value).getD j undef) (fun j hj => hφ j hj)]
              clear hφ vs
              refine op_list (by rfl) ?_
              simp only [fill, fillA, List.getD_cons_zero, List.getD_cons_succ, Nat.reduceAdd]
              go_wp2_with (go_at_call 13; refine (put_r n0 wb sc (.slice xa xn xm) (.slice xb yn ym) (.slice xc zn zm) (cs ++ ET.codeL all sc ps) 21 q 0 _ (HR2.out.stay HR.out) HL2.out).mono ?_; rintro e w' ⟨rfl, hk, hr⟩; have HK3 := Lib.hid hk; have HR3 := Lib.hid hr; clear hk hr)
              refine withK_intro ?_
              go_wp2
              go_roundw
              case rel => exact ⟨k + 1, by go_num, by omega, (HK.out.trans HK2.out).trans ((Wk.of_below HN2.out HR.out).trans HK3.out), by show Wr _ _ _ _ _ _ _ _; rw [HTT.out, HCC.out, ← List.append_assoc]; exact HR3.out⟩
              case measure => simp [intOf]; omega
            case hr17 => exact (Below.refl _ _).drew
          · obtain rfl : sn = 1 := hsn.symm
            clear hsn
            go_upto_region 17 with (go_at_call 31; refine (secret_r s _ _ HSec.out).mono ?_; rintro e w' ⟨rfl, hw⟩; have hw2 := hw.symm; clear hw; subst hw2)
            refine region_flow rfl 10 rfl (by decide +kernel) [74, 75, 76, 77, 78, 79, 80, 81, 82, 83] (by decide +kernel) rfl (by decide) (by simp) (fun w w' => Below w.heap.size w w') (fun w => Below w2.heap.size w2 w)
              (fun j v _ => v = ([.pointer (some ⟨wb, 0, none⟩), .pointer (some ⟨wb, 0, none⟩), .pointer (some ⟨wb, 0, none⟩), .pointer (some ⟨wb, 0, none⟩), .pointer (some ⟨wb, 2, none⟩), .slice xa xn xm, .pointer (some ⟨bx, 1, none⟩), .string s, .int .i64 q, .int .i64 1] : List Value).getD j undef) (fun _ _ _ _ _ h => h) ?hr17 ?hs17 ?hl17
            case hs17 =>
              intro ix hix a wx hR hout hdep
              have hix' : ix = 0 ∨ ix = 1 ∨ ix = 2 ∨ ix = 3 ∨ ix = 4 ∨ ix = 5 ∨ ix = 6 ∨ ix = 7 ∨ ix = 8 ∨ ix = 9 := by omega
              rcases hix' with rfl | rfl | rfl | rfl | rfl | rfl | rfl | rfl | rfl | rfl
              · have HR := Lib.hid hR
                clear hR
                have e0 := hout 0 (by decide)
                clear hout hdep
                refine op_list (by rfl) ?_
                go_wp2
                exact withK_intro ⟨_, rfl, Below.refl _ _, HR.out, rfl⟩
              · have HR := Lib.hid hR
                clear hR
                have e0 := hout 0 (by decide)
                clear hout hdep
                refine op_list (by rfl) ?_
                go_wp2
                exact withK_intro ⟨_, rfl, Below.refl _ _, HR.out, rfl⟩
              · have HR := Lib.hid hR
                clear hR
                have e75 : a.tmps[75]? = some (.pointer (some ⟨wb, 0, none⟩)) := flow_dep hdep 1 75 (by kernel_rfl) rfl
                clear hout hdep
                refine op_list (by rfl) ?_
                go_wp2
                exact withK_intro ⟨_, rfl, Below.refl _ _, HR.out, rfl⟩
              · have HR := Lib.hid hR
                clear hR
                have e76 : a.tmps[76]? = some (.pointer (some ⟨wb, 0, none⟩)) := flow_dep hdep 2 76 (by kernel_rfl) rfl
                clear hout hdep
                refine op_list (by rfl) ?_
                go_wp2
                exact withK_intro ⟨_, rfl, Below.refl _ _, HR.out, rfl⟩
              · have HR := Lib.hid hR
                clear hR
                have e77 : a.tmps[77]? = some (.pointer (some ⟨wb, 0, none⟩)) := flow_dep hdep 3 77 (by kernel_rfl) rfl
                clear hout hdep
                refine op_list (by rfl) ?_
                go_wp2
                exact withK_intro ⟨_, rfl, Below.refl _ _, HR.out, rfl⟩
              · have HR := Lib.hid hR
                clear hR
                have e78 : a.tmps[78]? = some (.pointer (some ⟨wb, 2, none⟩)) := flow_dep hdep 4 78 (by kernel_rfl) rfl
                have c2 := cellB HR HCF.out
                clear hout hdep
                refine op_list (by rfl) ?_
                go_wp2
                exact withK_intro ⟨_, rfl, Below.refl _ _, HR.out, rfl⟩
              · have HR := Lib.hid hR
                clear hR
                have e5 := hout 5 (by decide)
                clear hout hdep
                refine op_list (by rfl) ?_
                go_wp2
                exact withK_intro ⟨_, rfl, Below.refl _ _, HR.out, rfl⟩
              · have HR := Lib.hid hR
                clear hR
                have e80 : a.tmps[80]? = some (.pointer (some ⟨bx, 1, none⟩)) := flow_dep hdep 6 80 (by kernel_rfl) rfl
                have b2 := cellB HR HB2.out
                clear hout hdep
                refine op_list (by rfl) ?_
                go_wp2
                exact withK_intro ⟨_, rfl, Below.refl _ _, HR.out, rfl⟩
              · have HR := Lib.hid hR
                clear hR
                have e79 : a.tmps[79]? = some (.slice xa xn xm) := flow_dep hdep 5 79 (by kernel_rfl) rfl
                have e81 : a.tmps[81]? = some (.string s) := flow_dep hdep 7 81 (by kernel_rfl) rfl
                clear hout hdep
                refine op_list (by rfl) ?_
                go_wp2_with (go_at_call 30; refine (slot_r _ sc.vars s _ (HV.out.stay (hb_step HW2 HR.out)) _ HQ.out).mono ?_; rintro e w' ⟨rfl, rfl⟩)
                exact withK_intro ⟨_, rfl, Below.refl _ _, HR.out, rfl⟩
              · have HR := Lib.hid hR
                clear hR
                have e7 := hout 7 (by decide)
                clear hout hdep
                refine op_list (by rfl) ?_
                go_wp2
                exact withK_intro ⟨_, rfl, Below.refl _ _, HR.out, rfl⟩
            case hl17 =>
              intro vs wx hR hφ
              have HR := Lib.hid hR
              clear hR
              rw [fill_congr _ [74, 75, 76, 77, 78, 79, 80, 81, 82, 83] vs (fun j => ([.pointer (some ⟨wb, 0, none⟩), .pointer (some ⟨wb, 0, none⟩), .pointer (some ⟨wb, 0, none⟩), .pointer (some ⟨wb, 0, none⟩), .pointer (some ⟨wb, 2, none⟩), .slice xa xn xm, .pointer (some ⟨bx, 1, none⟩), .string s, .int .i64 q, .int .i64 1] : List Value).getD j undef) (fun j hj => hφ j hj)]
              clear hφ vs
              refine op_list (by rfl) ?_
              simp only [fill, fillA, List.getD_cons_zero, List.getD_cons_succ, Nat.reduceAdd]
              go_wp2_with (go_at_call 13; refine (put_r n0 wb sc (.slice xa xn xm) (.slice xb yn ym) (.slice xc zn zm) (cs ++ ET.codeL all sc ps) 21 q 1 _ (HR2.out.stay HR.out) HL2.out).mono ?_; rintro e w' ⟨rfl, hk, hr⟩; have HK3 := Lib.hid hk; have HR3 := Lib.hid hr; clear hk hr)
              refine withK_intro ?_
              go_wp2
              go_roundw
              case rel => exact ⟨k + 1, by go_num, by omega, (HK.out.trans HK2.out).trans ((Wk.of_below HN2.out HR.out).trans HK3.out), by show Wr _ _ _ _ _ _ _ _; rw [HTT.out, HCC.out, ← List.append_assoc]; exact HR3.out⟩
              case measure => simp [intOf]; omega
            case hr17 => exact (Below.refl _ _).drew
        · as_aux_lemma =>
          have HCC : Hid (ST.code all sc (.mk 5 n s ps bs es) cs.length = ET.codeL all sc ps ++ [⟨19, 0, 0⟩]) := (ST.code_simple all sc 5 n s ps bs es _ (by omega)).trans (by rfl)
          have hm2 := HM.out.stay HW2.out
          have m0 := hm2.1
          have HMM := Lib.hid hm2.2
          clear hm2
          go_wp2_with (first
            | (at_lookup; refine wpList_lookup_own_int _ rfl _ _ 104 rfl 3 3 .i64 lawInt Tryz.underlying104 Tryz.underlying3 (zeroInt _) mb mn simpleD rfl HMM.out _ _ rfl (keyOf_int_mk Tryz.underlying3 (WalkArith.wf_i64 (by omega))) ?_; intro c hat hwc; obtain rfl : c = 19 := by (have h' : DataW.lit (H := Unit) (.int .i64 19) = .lit (.int .i64 c) := hat); (injection h' with h'); (injection h' with _ h'); exact h'.symm)
            | (go_at_call 13; refine (put_r n0 wb sc (.slice xa xn xm) (.slice xb yn ym) (.slice xc zn zm) (cs ++ ET.codeL all sc ps) 19 0 0 _ (HR2.out.stay (Below.refl _ _)) HL2.out).mono ?_; rintro e w' ⟨rfl, hk, hr⟩; have HK3 := Lib.hid hk; have HR3 := Lib.hid hr; clear hk hr))
          go_roundw
          case rel => exact ⟨k + 1, by go_num, by omega, (HK.out.trans HK2.out).trans (HK3.out), by show Wr _ _ _ _ _ _ _ _; rw [HTT.out, HCC.out, ← List.append_assoc]; exact HR3.out⟩
          case measure => simp [intOf]; omega
        · as_aux_lemma =>
          have HCC : Hid (ST.code all sc (.mk 6 n s ps bs es) cs.length = ET.codeL all sc ps ++ [⟨20, 0, 0⟩]) := (ST.code_simple all sc 6 n s ps bs es _ (by omega)).trans (by rfl)
          have hm2 := HM.out.stay HW2.out
          have m0 := hm2.1
          have HMM := Lib.hid hm2.2
          clear hm2
          go_wp2_with (first
            | (at_lookup; refine wpList_lookup_own_int _ rfl _ _ 104 rfl 3 3 .i64 lawInt Tryz.underlying104 Tryz.underlying3 (zeroInt _) mb mn simpleD rfl HMM.out _ _ rfl (keyOf_int_mk Tryz.underlying3 (WalkArith.wf_i64 (by omega))) ?_; intro c hat hwc; obtain rfl : c = 20 := by (have h' : DataW.lit (H := Unit) (.int .i64 20) = .lit (.int .i64 c) := hat); (injection h' with h'); (injection h' with _ h'); exact h'.symm)
            | (go_at_call 13; refine (put_r n0 wb sc (.slice xa xn xm) (.slice xb yn ym) (.slice xc zn zm) (cs ++ ET.codeL all sc ps) 20 0 0 _ (HR2.out.stay (Below.refl _ _)) HL2.out).mono ?_; rintro e w' ⟨rfl, hk, hr⟩; have HK3 := Lib.hid hk; have HR3 := Lib.hid hr; clear hk hr))
          go_roundw
          case rel => exact ⟨k + 1, by go_num, by omega, (HK.out.trans HK2.out).trans (HK3.out), by show Wr _ _ _ _ _ _ _ _; rw [HTT.out, HCC.out, ← List.append_assoc]; exact HR3.out⟩
          case measure => simp [intOf]; omega
        · as_aux_lemma =>
          have HCC : Hid (ST.code all sc (.mk 9 n s ps bs es) cs.length = ET.codeL all sc ps ++ [⟨18, 0, 0⟩]) := (ST.code_simple all sc 9 n s ps bs es _ (by omega)).trans (by rfl)
          have hm2 := HM.out.stay HW2.out
          have m0 := hm2.1
          have HMM := Lib.hid hm2.2
          clear hm2
          go_wp2_with (first
            | (at_lookup; refine wpList_lookup_own_int _ rfl _ _ 104 rfl 3 3 .i64 lawInt Tryz.underlying104 Tryz.underlying3 (zeroInt _) mb mn simpleD rfl HMM.out _ _ rfl (keyOf_int_mk Tryz.underlying3 (WalkArith.wf_i64 (by omega))) ?_; intro c hat hwc; obtain rfl : c = 18 := by (have h' : DataW.lit (H := Unit) (.int .i64 18) = .lit (.int .i64 c) := hat); (injection h' with h'); (injection h' with _ h'); exact h'.symm)
            | (go_at_call 13; refine (put_r n0 wb sc (.slice xa xn xm) (.slice xb yn ym) (.slice xc zn zm) (cs ++ ET.codeL all sc ps) 18 0 0 _ (HR2.out.stay (Below.refl _ _)) HL2.out).mono ?_; rintro e w' ⟨rfl, hk, hr⟩; have HK3 := Lib.hid hk; have HR3 := Lib.hid hr; clear hk hr))
          go_roundw
          case rel => exact ⟨k + 1, by go_num, by omega, (HK.out.trans HK2.out).trans (HK3.out), by show Wr _ _ _ _ _ _ _ _; rw [HTT.out, HCC.out, ← List.append_assoc]; exact HR3.out⟩
          case measure => simp [intOf]; omega
        · as_aux_lemma =>
          obtain ⟨bc', hbc'⟩ : ∃ z, ST.codeL all sc bs ((cs ++ ET.codeL all sc ps).length + 1) = z := ⟨_, rfl⟩
          obtain ⟨ec', hec'⟩ : ∃ z, ST.codeL all sc es ((cs ++ ET.codeL all sc ps).length + 1 + bc'.length + 1) = z := ⟨_, rfl⟩
          have hcb := ST.code_branch all sc o n s ps bs es cs.length ho (cs ++ ET.codeL all sc ps).length (by simp) bc' ec' hbc' hec'
          obtain ⟨r, hr⟩ : ∃ z, (if o = 7 then [⟨16, ((cs ++ ET.codeL all sc ps).length + 1 + bc'.length + 1 : Nat), 0⟩] ++ bc' ++ [⟨15, ((cs ++ ET.codeL all sc ps).length + 1 + bc'.length + 1 + ec'.length : Nat), 0⟩] ++ ec' else [⟨16, ((cs ++ ET.codeL all sc ps).length + 1 + bc'.length + 1 : Nat), 0⟩] ++ bc' ++ [⟨15, (cs.length : Nat), 0⟩]) = (z : List VI) := ⟨_, rfl⟩
          rw [hr] at hcb
          have HCC := Lib.hid hcb
          have HLB : Hid (o = 7 → (cs ++ ET.codeL all sc ps).length + 1 + bc'.length + 1 + ec'.length ≤ 4194304) := by
            intro h7
            have := HL1.out
            rw [hcb, ← hr, if_pos h7] at this
            simp only [List.length_append, List.length_cons, List.length_nil] at this ⊢
            omega
          have HLB8 : Hid (o = 8 → (cs ++ ET.codeL all sc ps).length + 1 + bc'.length + 1 ≤ 4194304) := by
            intro h8
            have := HL1.out
            rw [hcb, ← hr, if_neg (by omega)] at this
            simp only [List.length_append, List.length_cons, List.length_nil] at this ⊢
            omega
          have HBC := Lib.hid hbc'
          have HEC := Lib.hid hec'
          have HRR := Lib.hid hr
          have q1 := cell_of_heap HBX.out 1
          have q2 := cell_of_heap HBX.out 2
          have q3 := cell_of_heap HBX.out 3
          have q4 := cell_of_heap HBX.out 4
          have q5 := cell_of_heap HBX.out 5
          have HBR : Hid (Calls Tryz.prog 32 #[.pointer (some ⟨wb, 0, none⟩), .agg #[.int .i64 o, .string s, .int .i64 n, .slice pa ps.length pc, .slice ba bs.length bc, .slice ea es.length ec], .int .i64 cs.length] w2 fun e w' => e = .returned (.tuple #[]) ∧ Wk n0 wb w2 w' ∧ Wr n0 w' wb sc (.slice xa xn xm) (.slice xb yn ym) (.slice xc zn zm) ((cs ++ ET.codeL all sc ps) ++ r)) :=
            wbranch_r w0 n0 wb sc all xa xb xc xn xm yn ym zn zm o n ho s pa ba ea _ pc _ bc _ ec bs es (HI1.out HOB.out n0 wb sc all xa xb xc xn xm yn ym zn zm mb mn h0 HV.out HVA.out HS.out HM.out) (HI2.out HOE.out n0 wb sc all xa xb xc xn xm yn ym zn zm mb mn h0 HV.out HVA.out HS.out HM.out) h0 _ cs.length bc' ec' HBC.out HEC.out HLB.out HLB8.out _ HW2.out HR2.out HN2.out r HRR.out
          clear hbc' hec' hcb hr HBC HEC HLB HLB8 HRR HI1 HI2
          rcases ho with rfl | rfl
          all_goals
            go_wp2_with (go_at_call 32; refine HBR.out.mono ?_; rintro e w' ⟨rfl, hk, hr⟩; have HK3 := Lib.hid hk; have HR3 := Lib.hid hr; clear hk hr)
            go_roundw
            case rel => exact ⟨k + 1, by go_num, by omega, (HK.out.trans HK2.out).trans (HK3.out), by show Wr _ _ _ _ _ _ _ _; rw [HTT.out, HCC.out, ← List.append_assoc]; exact HR3.out⟩
            case measure => simp [intOf]; omega
      · obtain rfl : k = l.length := by omega
        have hr := HR.out
        rw [List.take_length] at hr
        have HR2 := Lib.hid hr
        clear hr
        go_wp2
        go_end0
        exact ⟨rfl, HK.out, HR2.out⟩
end Go.Proofs.YthjjcmmonjajhaaGreatDoor
