/- The reference's stmt: what a statement is compiled to, told from its beginning. -/
import Derived.Test.YthjjcmmonjajhaaGreatDoorRefExprs
import Derived.Test.YthjjcmmonjajhaaGreatDoorRefs
import Derived.Test.YthjjcmmonjajhaaGreatDoorFlows
namespace Go.Proofs.YthjjcmmonjajhaaGreatDoor
open Go.RowKit Go.Sort
set_option linter.unusedVariables false

def StsOk (w0 : World) (allv sv : Value) (all : List SC) (sc : SC) (lv : Value) (l : List ST) : Prop :=
  ∀ w, Below w0.heap.size w0 w → Calls Tryz.prog 21 #[allv, sv, lv] w fun e w' => ∃ v, e = .returned v ∧ Below w.heap.size w w' ∧ OwnI w.heap.size w' v (ST.codeL all sc l 0)
def StOk (w0 : World) (allv sv : Value) (all : List SC) (sc : SC) (fv gv hv : Value) (o n : Int) (s : ByteArray) (l : List ET) (b e : List ST) : Prop :=
  ∀ w, Below w0.heap.size w0 w → Calls Tryz.prog 46 #[allv, sv, .agg #[.int .i64 o, .string s, .int .i64 n, fv, gv, hv]] w fun e' w' => ∃ v, e' = .returned v ∧ Below w.heap.size w w' ∧ OwnI w.heap.size w' v (ST.code all sc (.mk o n s l b e) 0)
def PHi (x : VI) (v : Value) (w : World) : Prop := ∃ g, v = .slice (some ⟨g, 0, none⟩) 1 1 ∧ w.heap[g]? = some (.cells #[.int .i64 x.op, .int .i64 x.a, .int .i64 x.n] 47 (0, 0))
theorem PHi.stay {x : VI} {v : Value} {w w' : World} (h : PHi x v w) (hb : Below w.heap.size w w') : PHi x v w' := by
  obtain ⟨g, e, q⟩ := h
  exact ⟨g, e, (hb.block g (lt_of_heap q)).trans q⟩
theorem ret_own {w : World} {base : Nat} {v : Value} {L : List VI} {ol : Nat} {i i' : VI} (hL : L.length = ol) (hi : i = i') (h : w.ownsRow base 47 3 v (ol + 1) (insR L ++ [.int .i64 i'.op, .int .i64 i'.a, .int .i64 i'.n])) : OwnI base w v (L ++ [i]) := by
  subst hL hi
  unfold OwnI
  rw [insR_append, insR_one, List.length_append]; exact h
theorem own_four {w : World} {base : Nat} {v : Value} {A B C D : List VI} {n : Nat} (hn : (A ++ B ++ C ++ D).length = n) (h : w.ownsRow base 47 3 v n (insR A ++ insR B ++ insR C ++ insR D)) : OwnI base w v (A ++ B ++ C ++ D) := by
  subst hn
  unfold OwnI
  rw [insR_append, insR_append, insR_append]; exact h
theorem own_five {w : World} {base : Nat} {v : Value} {A B C D E : List VI} {n : Nat} (hn : (A ++ B ++ C ++ D ++ E).length = n) (h : w.ownsRow base 47 3 v n (insR A ++ insR B ++ insR C ++ insR D ++ insR E)) : OwnI base w v (A ++ B ++ C ++ D ++ E) := by
  subst hn
  unfold OwnI
  rw [insR_append, insR_append, insR_append, insR_append]; exact h

set_option maxHeartbeats 32000000 in
set_option maxRecDepth 1000000 in
theorem rstmt_in (w0 : World) (allv vv av : Value) (all : List SC) (sc : SC) (henv : Env9 w0 allv vv av all sc) {fv gv hv : Value} {l : List ET} {bs es : List ST} (hf : ESl w0 fv l) (o n : Int) (s : ByteArray) (hx : stmtB o n s l.length bs.length es.length = true) (d : Int) (hn : (ET.nodesL l d).all (·.1) = true) (hnb : (ST.nodesL bs d).all (·.1) = true) (hne : (ST.nodesL es d).all (·.1) = true)
    (hlen : (ST.code all sc (.mk o n s l bs es) 0).length ≤ 10000000) (hgv : ∃ a m c, gv = .slice a m c) (hhv : ∃ a m c, hv = .slice a m c) (hjb : JumpsTo 10000000 (ST.codeL all sc bs 0)) (hje : JumpsTo 10000000 (ST.codeL all sc es 0))
    (hsb : StsOk w0 allv (.agg #[.string sc.name, .int .i64 sc.params, vv, av]) all sc gv bs) (hse : StsOk w0 allv (.agg #[.string sc.name, .int .i64 sc.params, vv, av]) all sc hv es) :
    StOk w0 allv (.agg #[.string sc.name, .int .i64 sc.params, vv, av]) all sc fv gv hv o n s l bs es := by
  cases hf with
  | mk a b off cap l f ha hc hmx hcell hsub =>
  intro w hw
  obtain ⟨iT, hi, hz0, hz1, hz2⟩ := info_parts infoIR
  obtain ⟨x1, x2, -, -, -, hnam⟩ := stmt_parts hx
  have hm1 : cap ≤ 9223372036854775807 := hmx
  have HEN := Lib.hid (henv.stay hw)
  obtain ⟨va, vn, vc, hvv⟩ := henv.vars.shapeT
  obtain ⟨aa, an, ac, hav⟩ := henv.arrays.shapeT
  obtain ⟨ga, gc, hall⟩ : ∃ a c, allv = .slice a all.length c := by obtain ⟨a, c, h, _⟩ := henv.scs.len9; exact ⟨a, c, h⟩
  obtain ⟨ga2, bn, bc2, rfl⟩ := hgv
  obtain ⟨ea2, en, ec2, rfl⟩ := hhv
  have HENV := Lib.hid henv
  subst hvv hav hall
  have HA := Lib.hid ha
  have HI := Lib.hid hcell
  have HS := Lib.hid hsub
  have HND := Lib.hid hn
  have HW := Lib.hid hw
  have HLEN := Lib.hid hlen
  have HXB := Lib.hid hx
  have HNAM := Lib.hid hnam
  have HNB := Lib.hid (And.intro hnb hne)
  have HJB := Lib.hid (And.intro hjb hje)
  have hlx : (ET.codeL all sc l).length ≤ 10000000 := by
    have := hlen
    simp only [ST.code] at this
    split at this
    · split at this <;> simp only [List.length_append, List.length_cons, List.length_nil] at this <;> omega
    · simp only [List.length_append, List.length_cons, List.length_nil] at this; omega
  have HLX := Lib.hid hlx
  unfold StsOk at hsb hse
  obtain ⟨nm, hnm⟩ : ∃ x, sc.name = x := ⟨_, rfl⟩
  obtain ⟨pm, hpm⟩ : ∃ x, sc.params = x := ⟨_, rfl⟩
  have HNP := Lib.hid (And.intro hnm hpm)
  rw [hnm, hpm] at hsb hse ⊢
  have HSB := Lib.hid hsb
  have HSE := Lib.hid hse
  clear ha hcell hsub hn hw hlen hx henv hnm hpm hmx hnb hne hsb hse hnam hjb hje hlx
  have hp2 : ((w.alloc (.cells #[.string nm, .int .i64 pm, .slice va vn vc, .slice aa an ac] 77)).alloc (.cells #[.int .i64 o, .string s, .int .i64 n, .slice a l.length cap, .slice ga2 bn bc2, .slice ea2 en ec2] 54)).heap[w.heap.size]? = some (.cells #[.string nm, .int .i64 pm, .slice va vn vc, .slice aa an ac] 77 (0, 0)) := (Below.heap_alloc _ _ _ (by rw [World.size_alloc]; omega)).trans (heap_alloc_new _ _)
  have hp3 : ((w.alloc (.cells #[.string nm, .int .i64 pm, .slice va vn vc, .slice aa an ac] 77)).alloc (.cells #[.int .i64 o, .string s, .int .i64 n, .slice a l.length cap, .slice ga2 bn bc2, .slice ea2 en ec2] 54)).heap[w.heap.size + 1]? = some (.cells #[.int .i64 o, .string s, .int .i64 n, .slice a l.length cap, .slice ga2 bn bc2, .slice ea2 en ec2] 54 (0, 0)) := by
    have := heap_alloc_new (w.alloc (.cells #[.string nm, .int .i64 pm, .slice va vn vc, .slice aa an ac] 77)) (.cells #[.int .i64 o, .string s, .int .i64 n, .slice a l.length cap, .slice ga2 bn bc2, .slice ea2 en ec2] 54)
    rwa [World.size_alloc] at this
  have HSB2 := Lib.hid hp2
  have HEB := Lib.hid hp3
  have HBA : Hid (Below w.heap.size w ((w.alloc (.cells #[.string nm, .int .i64 pm, .slice va vn vc, .slice aa an ac] 77)).alloc (.cells #[.int .i64 o, .string s, .int .i64 n, .slice a l.length cap, .slice ga2 bn bc2, .slice ea2 en ec2] 54))) := hb_alloc (hb_alloc (hb_start w) _) _
  have HSZ : Hid (((w.alloc (.cells #[.string nm, .int .i64 pm, .slice va vn vc, .slice aa an ac] 77)).alloc (.cells #[.int .i64 o, .string s, .int .i64 n, .slice a l.length cap, .slice ga2 bn bc2, .slice ea2 en ec2] 54)).heap.size = w.heap.size + 1 + 1) := by show _ = _; rw [World.size_alloc, World.size_alloc]
  clear hp2 hp3
  go_enter Tryz.func46, Tryz.ntmps46
  go_wp2
  generalize hW0 : (w.alloc (.cells #[.string nm, .int .i64 pm, .slice va vn vc, .slice aa an ac] 77)).alloc (.cells #[.int .i64 o, .string s, .int .i64 n, .slice a l.length cap, .slice ga2 bn bc2, .slice ea2 en ec2] 54) = W0 at HSB2 HEB HBA HSZ ⊢
  clear hW0
  go_loopw [7, 8] (fun v i wr => ∃ j : Nat, i = .int .i64 j ∧ j ≤ l.length ∧ Hid (Below W0.heap.size W0 wr) ∧ Hid (wr.ownsRow W0.heap.size 47 3 v (ET.codeL all sc (l.take j)).length (insR (ET.codeL all sc (l.take j))))) (fun _ i _ => l.length - (intOf i).toNat)
  case atStart => exact ⟨0, rfl, Nat.zero_le _, (Below.refl _ _).alloc (Nat.le_refl _) _, by rw [← HSZ.out]; exact own_empty9 _ _ _ _ (Nat.le_refl _)⟩
  case round =>
    obtain ⟨j, rfl, hjl, HB, HO⟩ := hrel
    obtain ⟨la, lc, rfl⟩ := own_shape HO.out
    have HBS := Lib.hid ((HB.out.block _ (lt_of_heap HSB2.out)).trans HSB2.out)
    have HBE := Lib.hid ((HB.out.block _ (lt_of_heap HEB.out)).trans HEB.out)
    have s0 : wr.cell? ⟨w.heap.size, 0, none⟩ = some (.string nm) := cell_of_heap HBS.out 0
    have s1 : wr.cell? ⟨w.heap.size, 1, none⟩ = some (.int .i64 pm) := cell_of_heap HBS.out 1
    have s2 : wr.cell? ⟨w.heap.size, 2, none⟩ = some (.slice va vn vc) := cell_of_heap HBS.out 2
    have s3 : wr.cell? ⟨w.heap.size, 3, none⟩ = some (.slice aa an ac) := cell_of_heap HBS.out 3
    have e0 : wr.cell? ⟨w.heap.size + 1, 0, none⟩ = some (.int .i64 o) := cell_of_heap HBE.out 0
    have e1 : wr.cell? ⟨w.heap.size + 1, 1, none⟩ = some (.string s) := cell_of_heap HBE.out 1
    have e2 : wr.cell? ⟨w.heap.size + 1, 2, none⟩ = some (.int .i64 n) := cell_of_heap HBE.out 2
    have e3 : wr.cell? ⟨w.heap.size + 1, 3, none⟩ = some (.slice a l.length cap) := cell_of_heap HBE.out 3
    have e4 : wr.cell? ⟨w.heap.size + 1, 4, none⟩ = some (.slice ga2 bn bc2) := cell_of_heap HBE.out 4
    have e5 : wr.cell? ⟨w.heap.size + 1, 5, none⟩ = some (.slice ea2 en ec2) := cell_of_heap HBE.out 5
    have HWr : Hid (Below w.heap.size w wr) := HBA.out.trans (HB.out.mono HBA.out.size)
    by_cases hlt : j < l.length
    · obtain rfl := HA.out (by omega)
      obtain ⟨p0, p1, p2, p3⟩ := HI.out j hlt
      have hB0 : Below w0.heap.size w0 wr := HW.out.trans (HWr.out.mono HW.out.size)
      have hz : b < w0.heap.size := lt_of_cell p0
      replace p0 := (hB0.cell (p := ⟨b, off + j * 4, none⟩) hz).trans p0
      replace p1 := (hB0.cell (p := ⟨b, off + j * 4 + 1, none⟩) hz).trans p1
      replace p2 := (hB0.cell (p := ⟨b, off + j * 4 + 2, none⟩) hz).trans p2
      replace p3 := (hB0.cell (p := ⟨b, off + j * 4 + 3, none⟩) hz).trans p3
      obtain ⟨y1, y2⟩ := nodesL_at l d j hlt HND.out
      have hN := codeL_next all sc l j hlt
      have hP := codeL_part all sc l j hlt
      rw [ET.code_parts] at hN hP
      have hI := rexpr_in w0 _ _ _ all sc HENV.out (HS.out j hlt) (l.getD j default).op (l.getD j default).num (l.getD j default).name y1 ⟨_, y2⟩ (by have := HLX.out; rw [List.length_append] at hP; omega)
      obtain ⟨qa, qc, hq⟩ := (HS.out j hlt).shape0
      rw [hq] at p3 hI
      rw [HNP.out.1, HNP.out.2] at hI
      clear hq y1 y2
      generalize l.getD j default = x at p0 p1 p2 p3 hI hN hP
      generalize hcj : (ET.codeL all sc x.parts ++ [insE all sc x.op x.num x.name]) = cj at hN hP
      unfold ExOk at hI
      rw [hcj] at hI
      generalize x.op = xo at p0 hI
      generalize x.num = xn at p1 hI
      generalize x.name = xs at p2 hI
      generalize x.parts.length = xpl at p3 hI
      have HI2 := Lib.hid hI
      have HN2 := Lib.hid hN
      have HP2 : Hid ((ET.codeL all sc (l.take j)).length + cj.length ≤ 10000000) := by have := HLX.out; show _ ≤ _; omega
      have HB0' := Lib.hid hB0
      have hjI : (j : Int) < l.length := by omega
      clear hI hN hP hz hB0 hcj
      go_wp2_with fail
      go_still_tail 7, (by kernel_rfl)
      change wpList _ _ _ _ _ wr.drew
      have HBd : Hid (Below W0.heap.size W0 wr.drew) := HB.out.drew
      have HOd := Lib.hid (own_hold9 HO.out (Below.refl _ _).drew)
      have HB0d : Hid (Below w0.heap.size w0 wr.drew) := HB0'.out.drew
      obtain ⟨ol, hol⟩ : ∃ x, (ET.codeL all sc (l.take j)).length = x := ⟨_, rfl⟩
      obtain ⟨xl, hxl⟩ : ∃ x, cj.length = x := ⟨_, rfl⟩
      have HOL := Lib.hid hol
      have HXL := Lib.hid hxl
      rw [hol] at HOd HO ⊢
      have hsum : ol + xl ≤ 10000000 := by have := HP2.out; omega
      clear HB HO HBS HBE HB0' HP2 hol hxl p0 p1 p2 p3 s0 s1 s2 s3 e0 e1 e2 e3 e4 e5
      generalize wr.drew = wd at HBd HOd HB0d ⊢
      go_wp2_with (first
        | (go_at_call 72; refine (HI2.out _ HB0d.out).mono ?_; rintro e w2 ⟨v2, rfl, hb, hv⟩; obtain ⟨ya, yc, hvs⟩ := hv.shape; have hxl := HXL.out; rw [hxl] at hvs; clear hxl; subst hvs; have HV := Lib.hid hv; have HB2 : Hid (Below W0.heap.size W0 w2) := HBd.out.trans (hb.mono HBd.out.size); have HO2 := Lib.hid (own_hold9 HOd.out hb); clear hb hv; obtain ⟨hyn, yb, yo, hya, hyc⟩ := HV.out.src9; have HYA := Lib.hid hya; have HYC := Lib.hid hyc; have HYN := Lib.hid hyn; clear hya hyc hyn)
        | (at_builtin; refine wpList_append_any _ rfl _ _ 42 rfl W0.heap.size 47 iT (.agg #[.int .i64 0, .int .i64 0, .int .i64 0]) 3 24 Tryz.underlying42 hi hz0 hz1 hz2 rfl (by decide) _ _ _ rfl HO2.out ya yb yo xl yc rfl HYA.out (insR cj) (by rw [insR_length, ← HYN.out]) HYC.out (insR_ones _) (by unfold maxLen; omega) (by omega) HB2.out.size ?_; intro v' w3 hown' hgrow; have HO3 := Lib.hid hown'; have HB3 : Hid (Below W0.heap.size W0 w3) := below_own9 HB2.out HB2.out.size HO2.out hgrow; clear hown' hgrow))
      go_roundw
      case rel => exact ⟨j + 1, by go_num, by omega, HB3, by rw [HN2.out, insR_append, List.length_append, HOL.out, HXL.out]; exact HO3.out⟩
      case measure => simp [intOf]; omega
    · obtain rfl : j = l.length := by omega
      rw [List.take_length] at HO ⊢
      have hL := HLX.out
      obtain ⟨L, hLd⟩ : ∃ x, ET.codeL all sc l = x := ⟨_, rfl⟩
      have HLD := Lib.hid hLd
      rw [hLd] at HO hL ⊢
      obtain ⟨ol, hol⟩ : ∃ x, L.length = x := ⟨_, rfl⟩
      have HOL := Lib.hid hol
      rw [hol] at HO hL ⊢
      have HTV : Hid (TSl wr (.slice va vn vc) sc.vars) := HEN.out.vars.stay HWr.out
      have HTA : Hid (TSl wr (.slice aa an ac) sc.arrays) := HEN.out.arrays.stay HWr.out
      have HB1 : Hid (W0.heap.size ≤ wr.heap.size) := HB.out.size
      have HWS : Hid (w.heap.size ≤ W0.heap.size) := HBA.out.size
      have HB0r : Hid (Below w0.heap.size w0 wr) := HW.out.trans (HWr.out.mono HW.out.size)
      have HENW : Hid (Below W0.heap.size W0 wr) := HB.out
      clear hol hLd HB HI HS HND HA HEN HENV
      have hcs : o = 1 ∨ o = 2 ∨ o = 3 ∨ o = 4 ∨ o = 5 ∨ o = 6 ∨ o = 9 ∨ o = 8 ∨ o = 7 := by omega
      rcases hcs with rfl | rfl | rfl | rfl | rfl | rfl | rfl | rfl | rfl
      · obtain ⟨q, hq⟩ : ∃ q, slotI sc.vars s = q := ⟨_, rfl⟩
        have HINS : Hid (insS sc 1 n s = ⟨3, q, 0⟩) := by show _ = _; rw [← hq]; rfl
        have HQ := Lib.hid hq
        clear hq
        have HC := Lib.hid (cell3_new wr (.int .i64 3) (.int .i64 q) (.int .i64 0) 47)
        have HOA := Lib.hid (HO.out.alloc (.cells #[.int .i64 3, .int .i64 q, .int .i64 0] 47))
        have HBA2 : Hid (Below w.heap.size w (wr.alloc (.cells #[.int .i64 3, .int .i64 q, .int .i64 0] 47))) := hb_alloc HWr _
        have hs2 : W0.heap.size ≤ (wr.alloc (.cells #[.int .i64 3, .int .i64 q, .int .i64 0] 47)).heap.size := Nat.le_trans HB1.out (by rw [World.size_alloc]; omega)
        go_wp2_with (first
          | (go_at_call 73; refine (place_r _ sc.vars s _ HTV.out _ HQ.out).mono ?_; rintro e w' ⟨rfl, hw9⟩; replace hw9 := hw9.symm; subst hw9)
          | (at_builtin; refine wpList_append_own _ rfl _ _ 42 rfl W0.heap.size 47 iT (.agg #[.int .i64 0, .int .i64 0, .int .i64 0]) 3 24 Tryz.underlying42 hi hz0 hz1 hz2 rfl (by decide) _ _ _ rfl HOA.out ⟨wr.heap.size, 0, none⟩ 1 1 [.int .i64 3, .int .i64 q, .int .i64 0] rfl rfl HC.out (by simp [Value.oneCell']) (by unfold maxLen; omega) (by omega) hs2 ?_; intro v' w3 hown' hgrow _; obtain ⟨g', cap', rfl⟩ := ownsRow_succ' hown'; have HO3 := Lib.hid hown'; have HB3 : Hid (Below w.heap.size w w3) := HBA2.out.grown hgrow HBA2.out.size (fun r e => Nat.le_trans HWS.out (HOA.out.lt r e).1); clear hown' hgrow))
        go_ret
        refine ⟨_, rfl, HB3.out, ?_⟩
        rw [ST.code_simple all sc 1 n s l bs es 0 (by decide), HLD.out]
        exact (ret_own HOL.out HINS.out HO3.out).lower HWS.out
      · obtain ⟨q, hq⟩ : ∃ q, slotI sc.arrays s = q := ⟨_, rfl⟩
        have HINS : Hid (insS sc 2 n s = ⟨24, q, 0⟩) := by show _ = _; rw [← hq]; rfl
        have HQ := Lib.hid hq
        clear hq
        have HC := Lib.hid (cell3_new wr (.int .i64 24) (.int .i64 q) (.int .i64 0) 47)
        have HOA := Lib.hid (HO.out.alloc (.cells #[.int .i64 24, .int .i64 q, .int .i64 0] 47))
        have HBA2 : Hid (Below w.heap.size w (wr.alloc (.cells #[.int .i64 24, .int .i64 q, .int .i64 0] 47))) := hb_alloc HWr _
        have hs2 : W0.heap.size ≤ (wr.alloc (.cells #[.int .i64 24, .int .i64 q, .int .i64 0] 47)).heap.size := Nat.le_trans HB1.out (by rw [World.size_alloc]; omega)
        go_wp2_with (first
          | (go_at_call 73; refine (place_r _ sc.arrays s _ HTA.out _ HQ.out).mono ?_; rintro e w' ⟨rfl, hw9⟩; replace hw9 := hw9.symm; subst hw9)
          | (at_builtin; refine wpList_append_own _ rfl _ _ 42 rfl W0.heap.size 47 iT (.agg #[.int .i64 0, .int .i64 0, .int .i64 0]) 3 24 Tryz.underlying42 hi hz0 hz1 hz2 rfl (by decide) _ _ _ rfl HOA.out ⟨wr.heap.size, 0, none⟩ 1 1 [.int .i64 24, .int .i64 q, .int .i64 0] rfl rfl HC.out (by simp [Value.oneCell']) (by unfold maxLen; omega) (by omega) hs2 ?_; intro v' w3 hown' hgrow _; obtain ⟨g', cap', rfl⟩ := ownsRow_succ' hown'; have HO3 := Lib.hid hown'; have HB3 : Hid (Below w.heap.size w w3) := HBA2.out.grown hgrow HBA2.out.size (fun r e => Nat.le_trans HWS.out (HOA.out.lt r e).1); clear hown' hgrow))
        go_ret
        refine ⟨_, rfl, HB3.out, ?_⟩
        rw [ST.code_simple all sc 2 n s l bs es 0 (by decide), HLD.out]
        exact (ret_own HOL.out HINS.out HO3.out).lower HWS.out
      · obtain ⟨q, hq⟩ : ∃ q, slotI sc.arrays s = q := ⟨_, rfl⟩
        have HINS : Hid (insS sc 3 n s = ⟨22, q, n⟩) := by show _ = _; rw [← hq]; rfl
        have HQ := Lib.hid hq
        have S3 := Lib.hid s3
        have E1 := Lib.hid e1
        have E2 := Lib.hid e2
        clear hq
        go_wp2_with fail
        clear s0 s1 s2 s3 e0 e1 e2 e3 e4 e5
        refine region_flow2 rfl 10 rfl (by decide +kernel) (by decide +kernel) [59, 60, 61, 62, 63, 64, 65, 66, 67, 68] (by decide +kernel) rfl (by decide) (by simp) (fun w w' => Below w.heap.size w w') (fun w => Below wr.heap.size wr w)
          (PhiAt 9 (PHi ⟨22, q, n⟩) [.slice la ol lc, .pointer (some ⟨w.heap.size, 3, none⟩), .slice aa an ac, .pointer (some ⟨w.heap.size + 1, 1, none⟩), .string s, .int .i64 q, .pointer (some ⟨w.heap.size + 1, 2, none⟩), .int .i64 n, .agg #[.int .i64 22, .int .i64 q, .int .i64 n], undef]) (fun j v w w' hS hh => hh.mono (fun h => h.stay hS)) ?hr13 ?hs13 ?hl13
        case hs13 =>
          intro ix hix a wx hR hout hdep
          have hix' : ix = 0 ∨ ix = 1 ∨ ix = 2 ∨ ix = 3 ∨ ix = 4 ∨ ix = 5 ∨ ix = 6 ∨ ix = 7 ∨ ix = 8 ∨ ix = 9 := by omega
          rcases hix' with rfl | rfl | rfl | rfl | rfl | rfl | rfl | rfl | rfl | rfl
          · have HR := Lib.hid hR
            clear hR
            have e7 := hout 7 (by decide)
            clear hout hdep
            refine op_list (by rfl) ?_
            go_wp2
            exact withK_intro ⟨_, rfl, Below.refl _ _, HR.out, PhiAt.known (by decide)⟩
          · have HR := Lib.hid hR
            clear hR
            have e4 := hout 4 (by decide)
            clear hout hdep
            refine op_list (by rfl) ?_
            go_wp2
            exact withK_intro ⟨_, rfl, Below.refl _ _, HR.out, PhiAt.known (by decide)⟩
          · have HR := Lib.hid hR
            clear hR
            have e60 : a.tmps[60]? = some (.pointer (some ⟨w.heap.size, 3, none⟩)) := flow_dep1 hdep 1 60 (by kernel_rfl) rfl (by decide)
            have z0 := cellB' HR S3.out
            clear hout hdep
            refine op_list (by rfl) ?_
            go_wp2
            exact withK_intro ⟨_, rfl, Below.refl _ _, HR.out, PhiAt.known (by decide)⟩
          · have HR := Lib.hid hR
            clear hR
            have e5 := hout 5 (by decide)
            clear hout hdep
            refine op_list (by rfl) ?_
            go_wp2
            exact withK_intro ⟨_, rfl, Below.refl _ _, HR.out, PhiAt.known (by decide)⟩
          · have HR := Lib.hid hR
            clear hR
            have e62 : a.tmps[62]? = some (.pointer (some ⟨w.heap.size + 1, 1, none⟩)) := flow_dep1 hdep 3 62 (by kernel_rfl) rfl (by decide)
            have z0 := cellB' HR E1.out
            clear hout hdep
            refine op_list (by rfl) ?_
            go_wp2
            exact withK_intro ⟨_, rfl, Below.refl _ _, HR.out, PhiAt.known (by decide)⟩
          · have HR := Lib.hid hR
            clear hR
            have e61 : a.tmps[61]? = some (.slice aa an ac) := flow_dep1 hdep 2 61 (by kernel_rfl) rfl (by decide)
            have e63 : a.tmps[63]? = some (.string s) := flow_dep1 hdep 4 63 (by kernel_rfl) rfl (by decide)
            clear hout hdep
            refine op_list (by rfl) ?_
            go_wp2_with (go_at_call 73; refine (place_r _ sc.arrays s _ (HTA.out.stay HR.out) _ HQ.out).mono ?_; rintro e w' ⟨rfl, hw9⟩; replace hw9 := hw9.symm; subst hw9)
            exact withK_intro ⟨_, rfl, Below.refl _ _, HR.out, PhiAt.known (by decide)⟩
          · have HR := Lib.hid hR
            clear hR
            have e5 := hout 5 (by decide)
            clear hout hdep
            refine op_list (by rfl) ?_
            go_wp2
            exact withK_intro ⟨_, rfl, Below.refl _ _, HR.out, PhiAt.known (by decide)⟩
          · have HR := Lib.hid hR
            clear hR
            have e65 : a.tmps[65]? = some (.pointer (some ⟨w.heap.size + 1, 2, none⟩)) := flow_dep1 hdep 6 65 (by kernel_rfl) rfl (by decide)
            have z0 := cellB' HR E2.out
            clear hout hdep
            refine op_list (by rfl) ?_
            go_wp2
            exact withK_intro ⟨_, rfl, Below.refl _ _, HR.out, PhiAt.known (by decide)⟩
          · have HR := Lib.hid hR
            clear hR
            have e64 : a.tmps[64]? = some (.int .i64 q) := flow_dep1 hdep 5 64 (by kernel_rfl) rfl (by decide)
            have e66 : a.tmps[66]? = some (.int .i64 n) := flow_dep1 hdep 7 66 (by kernel_rfl) rfl (by decide)
            clear hout hdep
            refine op_list (by rfl) ?_
            go_wp2
            exact withK_intro ⟨_, rfl, Below.refl _ _, HR.out, PhiAt.known (by decide)⟩
          · have HR := Lib.hid hR
            clear hR
            have e67 : a.tmps[67]? = some (.agg #[.int .i64 22, .int .i64 q, .int .i64 n]) := flow_dep1 hdep 8 67 (by kernel_rfl) rfl (by decide)
            clear hout hdep
            refine op_list (by rfl) ?_
            go_wp2
            exact withK_intro ⟨_, rfl, (Below.refl _ _).alloc (Nat.le_refl _) _, HR.out.alloc HR.out.size _, PhiAt.one ⟨_, rfl, heap_alloc_new _ _⟩⟩
        case hl13 =>
          intro vs wx hR hφ
          have HR := Lib.hid hR
          clear hR
          obtain ⟨g, hg9, hgh⟩ := (hφ 9 (by omega)).1 rfl
          rw [fill_congr _ [59, 60, 61, 62, 63, 64, 65, 66, 67, 68] vs (fun jx => ([.slice la ol lc, .pointer (some ⟨w.heap.size, 3, none⟩), .slice aa an ac, .pointer (some ⟨w.heap.size + 1, 1, none⟩), .string s, .int .i64 q, .pointer (some ⟨w.heap.size + 1, 2, none⟩), .int .i64 n, .agg #[.int .i64 22, .int .i64 q, .int .i64 n], .slice (some ⟨g, 0, none⟩) 1 1] : List Value).getD jx undef) (fun jx hj => by
            by_cases e : jx = 9
            · subst e; assumption
            · have hj' : jx = 0 ∨ jx = 1 ∨ jx = 2 ∨ jx = 3 ∨ jx = 4 ∨ jx = 5 ∨ jx = 6 ∨ jx = 7 ∨ jx = 8 := by simp at hj; omega
              rw [(hφ jx hj).2 e]
              rcases hj' with rfl | rfl | rfl | rfl | rfl | rfl | rfl | rfl | rfl <;> rfl)]
          clear hφ
          have hxs := own_hold9 HO.out HR.out
          have hs2 : W0.heap.size ≤ wx.heap.size := Nat.le_trans HB1.out HR.out.size
          have HBA2 : Hid (Below w.heap.size w wx) := hb_step HWr HR.out
          refine op_list (by rfl) ?_
          refine wpList_append_own _ rfl _ _ 42 rfl W0.heap.size 47 iT (.agg #[.int .i64 0, .int .i64 0, .int .i64 0]) 3 24 Tryz.underlying42 hi hz0 hz1 hz2 rfl (by decide) (.slice la ol lc) ol (insR L) (eval_fill2 _ _ _ 0 59 (by decide) rfl rfl) hxs ⟨g, 0, none⟩ 1 1 [.int .i64 22, .int .i64 q, .int .i64 n] (eval_fill2 _ _ _ 9 68 (by decide) rfl rfl) rfl (fun i u hu => by rw [addr_add0, Nat.zero_add, cell_of_heap hgh, ← hu]; simp) (by simp [Value.oneCell']) (by unfold maxLen; omega) (by omega) hs2 ?_
          intro v' w3 hown' hgrow _
          obtain ⟨g', cap', rfl⟩ := ownsRow_succ' hown'
          have HO3 := Lib.hid hown'
          have HB3 : Hid (Below w.heap.size w w3) := HBA2.out.grown hgrow HBA2.out.size (fun r e => Nat.le_trans HWS.out (hxs.lt r e).1)
          clear hown' hgrow hxs hgh hg9
          simp only [fill, fillA, List.getD_cons_zero, List.getD_cons_succ, Nat.reduceAdd, List.setIfInBounds_toArray, List.set_cons_succ, List.set_cons_zero]
          go_wp2
          refine withK_intro ?_
          refine op_list (by rfl) ?_
          go_wp2
          refine withK_intro ?_
          go_wp2
          go_ret
          refine ⟨_, rfl, HB3.out, ?_⟩
          rw [ST.code_simple all sc 3 n s l bs es 0 (by decide), HLD.out]
          exact (ret_own HOL.out HINS.out HO3.out).lower HWS.out
        case hr13 => exact (Below.refl _ _).drew
      · obtain ⟨q, hq⟩ : ∃ q, slotI sc.vars s = q := ⟨_, rfl⟩
        have hnb0 := HNAM.out (by decide)
        have h0 : 0 < s.size := by unfold nameB at hnb0; simp only [Bool.and_eq_true, decide_eq_true_eq] at hnb0; omega
        obtain ⟨c, hc9⟩ : ∃ c, byteAt s 0 = c := ⟨_, rfl⟩
        have hcc : ((s[0]'h0).toNat : Int) = c := by rw [← hc9, byteAt_of s 0 h0]
        have hcs : (decide (64 < c) = false ∧ secretB s = false) ∨ (64 < c ∧ decide (c < 91) = false ∧ secretB s = false) ∨ (64 < c ∧ c < 91 ∧ secretB s = true) := by
          unfold secretB
          rw [hc9, decide_eq_true h0]
          by_cases h1 : 64 < c
          · by_cases h2 : c < 91
            · exact .inr (.inr ⟨h1, h2, by rw [decide_eq_true (show 65 ≤ c by omega), decide_eq_true (show c ≤ 90 by omega)]; rfl⟩)
            · exact .inr (.inl ⟨h1, decide_eq_false h2, by rw [decide_eq_false (show ¬ c ≤ 90 by omega), Bool.and_false]; rfl⟩)
          · exact .inl ⟨decide_eq_false h1, by rw [decide_eq_false (show ¬ 65 ≤ c by omega)]; rfl⟩
        have HQ := Lib.hid hq
        clear hnb0 hc9
        rcases hcs with ⟨h1, hsc⟩ | ⟨h1, h2, hsc⟩ | ⟨h1, h2, hsc⟩
        · have HINS : Hid (insS sc 4 n s = ⟨21, q, 0⟩) := by show _ = _; unfold insS; rw [if_neg (by decide), if_neg (by decide), if_neg (by decide), if_pos rfl, hq, hsc]; rfl
          clear hq hsc
          have HC := Lib.hid (cell3_new wr (.int .i64 21) (.int .i64 q) (.int .i64 0) 47)
          have HOA := Lib.hid (HO.out.alloc (.cells #[.int .i64 21, .int .i64 q, .int .i64 0] 47))
          have HBA2 : Hid (Below w.heap.size w (wr.alloc (.cells #[.int .i64 21, .int .i64 q, .int .i64 0] 47))) := hb_alloc HWr _
          have hs2 : W0.heap.size ≤ (wr.alloc (.cells #[.int .i64 21, .int .i64 q, .int .i64 0] 47)).heap.size := Nat.le_trans HB1.out (by rw [World.size_alloc]; omega)
          go_wp2_with (first
            | (go_at_call 73; refine (place_r _ sc.vars s _ HTV.out _ HQ.out).mono ?_; rintro e w' ⟨rfl, hw9⟩; replace hw9 := hw9.symm; subst hw9)
            | (at_builtin; refine wpList_append_own _ rfl _ _ 42 rfl W0.heap.size 47 iT (.agg #[.int .i64 0, .int .i64 0, .int .i64 0]) 3 24 Tryz.underlying42 hi hz0 hz1 hz2 rfl (by decide) _ _ _ rfl HOA.out ⟨wr.heap.size, 0, none⟩ 1 1 [.int .i64 21, .int .i64 q, .int .i64 0] rfl rfl HC.out (by simp [Value.oneCell']) (by unfold maxLen; omega) (by omega) hs2 ?_; intro v' w3 hown' hgrow _; obtain ⟨g', cap', rfl⟩ := ownsRow_succ' hown'; have HO3 := Lib.hid hown'; have HB3 : Hid (Below w.heap.size w w3) := HBA2.out.grown hgrow HBA2.out.size (fun r e => Nat.le_trans HWS.out (HOA.out.lt r e).1); clear hown' hgrow))
          go_ret
          refine ⟨_, rfl, HB3.out, ?_⟩
          rw [ST.code_simple all sc 4 n s l bs es 0 (by decide), HLD.out]
          exact (ret_own HOL.out HINS.out HO3.out).lower HWS.out
        · have HINS : Hid (insS sc 4 n s = ⟨21, q, 0⟩) := by show _ = _; unfold insS; rw [if_neg (by decide), if_neg (by decide), if_neg (by decide), if_pos rfl, hq, hsc]; rfl
          clear hq hsc
          have HC := Lib.hid (cell3_new wr (.int .i64 21) (.int .i64 q) (.int .i64 0) 47)
          have HOA := Lib.hid (HO.out.alloc (.cells #[.int .i64 21, .int .i64 q, .int .i64 0] 47))
          have HBA2 : Hid (Below w.heap.size w (wr.alloc (.cells #[.int .i64 21, .int .i64 q, .int .i64 0] 47))) := hb_alloc HWr _
          have hs2 : W0.heap.size ≤ (wr.alloc (.cells #[.int .i64 21, .int .i64 q, .int .i64 0] 47)).heap.size := Nat.le_trans HB1.out (by rw [World.size_alloc]; omega)
          go_wp2_with (first
            | (go_at_call 73; refine (place_r _ sc.vars s _ HTV.out _ HQ.out).mono ?_; rintro e w' ⟨rfl, hw9⟩; replace hw9 := hw9.symm; subst hw9)
            | (at_builtin; refine wpList_append_own _ rfl _ _ 42 rfl W0.heap.size 47 iT (.agg #[.int .i64 0, .int .i64 0, .int .i64 0]) 3 24 Tryz.underlying42 hi hz0 hz1 hz2 rfl (by decide) _ _ _ rfl HOA.out ⟨wr.heap.size, 0, none⟩ 1 1 [.int .i64 21, .int .i64 q, .int .i64 0] rfl rfl HC.out (by simp [Value.oneCell']) (by unfold maxLen; omega) (by omega) hs2 ?_; intro v' w3 hown' hgrow _; obtain ⟨g', cap', rfl⟩ := ownsRow_succ' hown'; have HO3 := Lib.hid hown'; have HB3 : Hid (Below w.heap.size w w3) := HBA2.out.grown hgrow HBA2.out.size (fun r e => Nat.le_trans HWS.out (HOA.out.lt r e).1); clear hown' hgrow))
          go_ret
          refine ⟨_, rfl, HB3.out, ?_⟩
          rw [ST.code_simple all sc 4 n s l bs es 0 (by decide), HLD.out]
          exact (ret_own HOL.out HINS.out HO3.out).lower HWS.out
        · have HINS : Hid (insS sc 4 n s = ⟨21, q, 1⟩) := by show _ = _; unfold insS; rw [if_neg (by decide), if_neg (by decide), if_neg (by decide), if_pos rfl, hq, hsc]; rfl
          clear hq hsc
          have HC := Lib.hid (cell3_new wr (.int .i64 21) (.int .i64 q) (.int .i64 1) 47)
          have HOA := Lib.hid (HO.out.alloc (.cells #[.int .i64 21, .int .i64 q, .int .i64 1] 47))
          have HBA2 : Hid (Below w.heap.size w (wr.alloc (.cells #[.int .i64 21, .int .i64 q, .int .i64 1] 47))) := hb_alloc HWr _
          have hs2 : W0.heap.size ≤ (wr.alloc (.cells #[.int .i64 21, .int .i64 q, .int .i64 1] 47)).heap.size := Nat.le_trans HB1.out (by rw [World.size_alloc]; omega)
          go_wp2_with (first
            | (go_at_call 73; refine (place_r _ sc.vars s _ HTV.out _ HQ.out).mono ?_; rintro e w' ⟨rfl, hw9⟩; replace hw9 := hw9.symm; subst hw9)
            | (at_builtin; refine wpList_append_own _ rfl _ _ 42 rfl W0.heap.size 47 iT (.agg #[.int .i64 0, .int .i64 0, .int .i64 0]) 3 24 Tryz.underlying42 hi hz0 hz1 hz2 rfl (by decide) _ _ _ rfl HOA.out ⟨wr.heap.size, 0, none⟩ 1 1 [.int .i64 21, .int .i64 q, .int .i64 1] rfl rfl HC.out (by simp [Value.oneCell']) (by unfold maxLen; omega) (by omega) hs2 ?_; intro v' w3 hown' hgrow _; obtain ⟨g', cap', rfl⟩ := ownsRow_succ' hown'; have HO3 := Lib.hid hown'; have HB3 : Hid (Below w.heap.size w w3) := HBA2.out.grown hgrow HBA2.out.size (fun r e => Nat.le_trans HWS.out (HOA.out.lt r e).1); clear hown' hgrow))
          go_ret
          refine ⟨_, rfl, HB3.out, ?_⟩
          rw [ST.code_simple all sc 4 n s l bs es 0 (by decide), HLD.out]
          exact (ret_own HOL.out HINS.out HO3.out).lower HWS.out
      · have HINS : Hid (insS sc 5 n s = ⟨19, 0, 0⟩) := rfl
        have HC := Lib.hid (cell3_new wr (.int .i64 19) (.int .i64 0) (.int .i64 0) 47)
        have HOA := Lib.hid (HO.out.alloc (.cells #[.int .i64 19, .int .i64 0, .int .i64 0] 47))
        have HBA2 : Hid (Below w.heap.size w (wr.alloc (.cells #[.int .i64 19, .int .i64 0, .int .i64 0] 47))) := hb_alloc HWr _
        have hs2 : W0.heap.size ≤ (wr.alloc (.cells #[.int .i64 19, .int .i64 0, .int .i64 0] 47)).heap.size := Nat.le_trans HB1.out (by rw [World.size_alloc]; omega)
        go_wp2_with (at_builtin; refine wpList_append_own _ rfl _ _ 42 rfl W0.heap.size 47 iT (.agg #[.int .i64 0, .int .i64 0, .int .i64 0]) 3 24 Tryz.underlying42 hi hz0 hz1 hz2 rfl (by decide) _ _ _ rfl HOA.out ⟨wr.heap.size, 0, none⟩ 1 1 [.int .i64 19, .int .i64 0, .int .i64 0] rfl rfl HC.out (by simp [Value.oneCell']) (by unfold maxLen; omega) (by omega) hs2 ?_; intro v' w3 hown' hgrow _; obtain ⟨g', cap', rfl⟩ := ownsRow_succ' hown'; have HO3 := Lib.hid hown'; have HB3 : Hid (Below w.heap.size w w3) := HBA2.out.grown hgrow HBA2.out.size (fun r e => Nat.le_trans HWS.out (HOA.out.lt r e).1); clear hown' hgrow)
        go_ret
        refine ⟨_, rfl, HB3.out, ?_⟩
        rw [ST.code_simple all sc 5 n s l bs es 0 (by decide), HLD.out]
        exact (ret_own HOL.out HINS.out HO3.out).lower HWS.out
      · have HINS : Hid (insS sc 6 n s = ⟨20, 0, 0⟩) := rfl
        have HC := Lib.hid (cell3_new wr (.int .i64 20) (.int .i64 0) (.int .i64 0) 47)
        have HOA := Lib.hid (HO.out.alloc (.cells #[.int .i64 20, .int .i64 0, .int .i64 0] 47))
        have HBA2 : Hid (Below w.heap.size w (wr.alloc (.cells #[.int .i64 20, .int .i64 0, .int .i64 0] 47))) := hb_alloc HWr _
        have hs2 : W0.heap.size ≤ (wr.alloc (.cells #[.int .i64 20, .int .i64 0, .int .i64 0] 47)).heap.size := Nat.le_trans HB1.out (by rw [World.size_alloc]; omega)
        go_wp2_with (at_builtin; refine wpList_append_own _ rfl _ _ 42 rfl W0.heap.size 47 iT (.agg #[.int .i64 0, .int .i64 0, .int .i64 0]) 3 24 Tryz.underlying42 hi hz0 hz1 hz2 rfl (by decide) _ _ _ rfl HOA.out ⟨wr.heap.size, 0, none⟩ 1 1 [.int .i64 20, .int .i64 0, .int .i64 0] rfl rfl HC.out (by simp [Value.oneCell']) (by unfold maxLen; omega) (by omega) hs2 ?_; intro v' w3 hown' hgrow _; obtain ⟨g', cap', rfl⟩ := ownsRow_succ' hown'; have HO3 := Lib.hid hown'; have HB3 : Hid (Below w.heap.size w w3) := HBA2.out.grown hgrow HBA2.out.size (fun r e => Nat.le_trans HWS.out (HOA.out.lt r e).1); clear hown' hgrow)
        go_ret
        refine ⟨_, rfl, HB3.out, ?_⟩
        rw [ST.code_simple all sc 6 n s l bs es 0 (by decide), HLD.out]
        exact (ret_own HOL.out HINS.out HO3.out).lower HWS.out
      · have HINS : Hid (insS sc 9 n s = ⟨18, 0, 0⟩) := rfl
        have HC := Lib.hid (cell3_new wr (.int .i64 18) (.int .i64 0) (.int .i64 0) 47)
        have HOA := Lib.hid (HO.out.alloc (.cells #[.int .i64 18, .int .i64 0, .int .i64 0] 47))
        have HBA2 : Hid (Below w.heap.size w (wr.alloc (.cells #[.int .i64 18, .int .i64 0, .int .i64 0] 47))) := hb_alloc HWr _
        have hs2 : W0.heap.size ≤ (wr.alloc (.cells #[.int .i64 18, .int .i64 0, .int .i64 0] 47)).heap.size := Nat.le_trans HB1.out (by rw [World.size_alloc]; omega)
        go_wp2_with (at_builtin; refine wpList_append_own _ rfl _ _ 42 rfl W0.heap.size 47 iT (.agg #[.int .i64 0, .int .i64 0, .int .i64 0]) 3 24 Tryz.underlying42 hi hz0 hz1 hz2 rfl (by decide) _ _ _ rfl HOA.out ⟨wr.heap.size, 0, none⟩ 1 1 [.int .i64 18, .int .i64 0, .int .i64 0] rfl rfl HC.out (by simp [Value.oneCell']) (by unfold maxLen; omega) (by omega) hs2 ?_; intro v' w3 hown' hgrow _; obtain ⟨g', cap', rfl⟩ := ownsRow_succ' hown'; have HO3 := Lib.hid hown'; have HB3 : Hid (Below w.heap.size w w3) := HBA2.out.grown hgrow HBA2.out.size (fun r e => Nat.le_trans HWS.out (HOA.out.lt r e).1); clear hown' hgrow)
        go_ret
        refine ⟨_, rfl, HB3.out, ?_⟩
        rw [ST.code_simple all sc 9 n s l bs es 0 (by decide), HLD.out]
        exact (ret_own HOL.out HINS.out HO3.out).lower HWS.out
      · have hlen := HLEN.out
        obtain ⟨BC, hBC⟩ : ∃ x, ST.codeL all sc bs 0 = x := ⟨_, rfl⟩
        obtain ⟨EC, hEC⟩ : ∃ x, ST.codeL all sc es 0 = x := ⟨_, rfl⟩
        have hsb := HSB.out
        have hse := HSE.out
        have hjb := HJB.out.1
        have hje := HJB.out.2
        rw [hBC] at hsb hjb
        rw [hEC] at hse hje
        obtain ⟨bl, hbl⟩ : ∃ x, BC.length = x := ⟨_, rfl⟩
        obtain ⟨el, hel⟩ : ∃ x, EC.length = x := ⟨_, rfl⟩
        have hol := HOL.out
        have hb1 := ST.shift_codeL (all := all) (sc := sc) (ol + 1) bs 0 d HNB.out.1
        rw [hBC, Nat.zero_add] at hb1
        have hcode : ST.code all sc (.mk 8 n s l bs es) 0 = L ++ [⟨16, (ol : Int) + 1 + bl + 1, 0⟩] ++ shiftL ((ol : Int) + 1) BC ++ [⟨15, 0, 0⟩] := by
          simp only [ST.code]
          rw [if_pos (by simp), if_neg (by simp), HLD.out, hol, Nat.zero_add, hb1, shiftL_len, hbl]
          exact two_jumps' _ _ (by first | rfl | (congr 1; omega)) (by first | rfl | (congr 1; omega))
        rw [hcode] at hlen
        simp only [List.length_append, List.length_cons, List.length_nil, shiftL_len, hbl, hol] at hlen
        have HCODE := Lib.hid hcode
        have HBL := Lib.hid hbl
        have HEL := Lib.hid hel
        have HSBb := Lib.hid hsb
        have HSEe := Lib.hid hse
        have HJb := Lib.hid hjb
        have HJe := Lib.hid hje
        have HLN := Lib.hid hlen
        have HLT : Hid (∀ k, (Value.slice la ol lc).ownBlock = some k → k < wr.heap.size) := fun k e => (HO.out.lt k e).2
        clear hcode hbl hel hsb hse hjb hje hol hb1 hBC hEC HSB HSE HJB HLEN HXB HNAM
        have hby : (ol : Int) + 1 + bl + 1 - 1 - bl = ol + 1 := by omega
        go_wp2_with (first
          | (go_at_call 21; refine (HSBb.out _ HB0r.out).mono ?_; rintro e w2 ⟨v2, rfl, hb2, ho2⟩; obtain ⟨ba, bcap, hbs⟩ := ho2.shape; have hbl := HBL.out; rw [hbl] at hbs; clear hbl; subst hbs; have HBO := Lib.hid ho2; have HO2 := Lib.hid (own_hold9 HO.out hb2); have HSZ2 : Hid (wr.heap.size ≤ w2.heap.size) := hb2.size; have HW02 : Hid (Below W0.heap.size W0 w2) := HENW.out.trans (hb2.mono HB1.out); have HB02 : Hid (Below w0.heap.size w0 w2) := HB0r.out.trans (hb2.mono HB0r.out.size); have HBE2 := Lib.hid ((HW02.out.block _ (lt_of_heap HEB.out)).trans HEB.out); have HBS2 := Lib.hid ((HW02.out.block _ (lt_of_heap HSB2.out)).trans HSB2.out); clear hb2 ho2 HSBb; have x0 : w2.cell? ⟨w.heap.size + 1, 0, none⟩ = some (.int .i64 8) := cell_of_heap HBE2.out 0; have x5 : w2.cell? ⟨w.heap.size + 1, 5, none⟩ = some (.slice ea2 en ec2) := cell_of_heap HBE2.out 5; have u0 : w2.cell? ⟨w.heap.size, 0, none⟩ = some (.string nm) := cell_of_heap HBS2.out 0; have u1 : w2.cell? ⟨w.heap.size, 1, none⟩ = some (.int .i64 pm) := cell_of_heap HBS2.out 1; have u2 : w2.cell? ⟨w.heap.size, 2, none⟩ = some (.slice va vn vc) := cell_of_heap HBS2.out 2; have u3 : w2.cell? ⟨w.heap.size, 3, none⟩ = some (.slice aa an ac) := cell_of_heap HBS2.out 3; have HOA := Lib.hid (HO2.out.alloc (.cells #[.int .i64 16, .int .i64 ((ol : Int) + 1 + bl + 1), .int .i64 0] 47)); have HC1 := Lib.hid (cell3_new w2 (.int .i64 16) (.int .i64 ((ol : Int) + 1 + bl + 1)) (.int .i64 0) 47); have HBA1 : Hid (Below W0.heap.size W0 (w2.alloc (.cells #[.int .i64 16, .int .i64 ((ol : Int) + 1 + bl + 1), .int .i64 0] 47))) := HW02.out.alloc HW02.out.size _; have HBO1 : Hid (OwnI wr.heap.size (w2.alloc (.cells #[.int .i64 16, .int .i64 ((ol : Int) + 1 + bl + 1), .int .i64 0] 47)) (.slice ba bl bcap) BC) := Lib.hid (World.ownsRow.alloc HBO.out (.cells #[.int .i64 16, .int .i64 ((ol : Int) + 1 + bl + 1), .int .i64 0] 47)))
          | (at_builtin; refine wpList_append_any_at _ rfl _ _ 42 rfl W0.heap.size 47 iT (.agg #[.int .i64 0, .int .i64 0, .int .i64 0]) 3 24 Tryz.underlying42 hi hz0 hz1 hz2 rfl (by decide) _ _ _ rfl HOA.out (some ⟨w2.heap.size, 0, none⟩) w2.heap.size 0 1 1 rfl (fun _ => rfl) [.int .i64 16, .int .i64 ((ol : Int) + 1 + bl + 1), .int .i64 0] rfl (fun j u h => by have := HC1.out j u h; rwa [addr_add0] at this) (by simp [Value.oneCell']) (by unfold maxLen; omega) (by omega) HBA1.out.size ?_; intro v4 w4 hown' hgrow hat; have HO4 := Lib.hid hown'; have HB4 : Hid (Below W0.heap.size W0 w4) := below_own9 HBA1.out HBA1.out.size HOA.out hgrow; have HBO4 : Hid (OwnI wr.heap.size w4 (.slice ba bl bcap) BC) := OwnI.apart HBO1.out hgrow (fun k e h => by have h1 := HLT.out k e; have h2 := (HBO1.out.lt k h).1; omega); clear hown' hgrow hat HOA HBO1)
          | (go_at_call 74; refine (moved_r ba bl bcap BC ((ol : Int) + 1) 10000000 (by omega) (by omega) (by omega) HJb.out (by rw [HBL.out]; omega) _ (HBO4.out.isl (by rw [HBL.out]; omega))).mono ?_; rintro e w5 ⟨v5, rfl, hb5, ho5⟩; obtain ⟨ma, mc, hms⟩ := ho5.shape; have hbl := HBL.out; rw [shiftL_len, hbl] at hms; clear hbl; subst hms; have HO5 := Lib.hid (own_hold9 HO4.out hb5); have HB5 : Hid (Below W0.heap.size W0 w5) := HB4.out.trans (hb5.mono HB4.out.size); obtain ⟨hmn, mb, mo, hma, hmc⟩ := (ho5.isl (by rw [shiftL_len, HBL.out]; omega)).src9; have HMA := Lib.hid hma; have HMC := Lib.hid hmc; have HMN := Lib.hid hmn; clear hma hmc hmn hb5 ho5 HBO4)
          | (at_builtin; refine wpList_append_any_at _ rfl _ _ 42 rfl W0.heap.size 47 iT (.agg #[.int .i64 0, .int .i64 0, .int .i64 0]) 3 24 Tryz.underlying42 hi hz0 hz1 hz2 rfl (by decide) _ _ _ rfl HO5.out ma mb mo bl mc rfl HMA.out (insR (shiftL ((ol : Int) + 1) BC)) (by rw [insR_length, ← HMN.out]) HMC.out (insR_ones _) (by unfold maxLen; omega) (by omega) HB5.out.size ?_; intro v6 w6 hown' hgrow hat; have HO6 := Lib.hid hown'; have HB6 : Hid (Below W0.heap.size W0 w6) := below_own9 HB5.out HB5.out.size HO5.out hgrow; have HOB := Lib.hid (HO6.out.alloc (.cells #[.int .i64 15, .int .i64 0, .int .i64 0] 47)); have HC3 := Lib.hid (cell3_new w6 (.int .i64 15) (.int .i64 0) (.int .i64 0) 47); have HBA3 : Hid (Below W0.heap.size W0 (w6.alloc (.cells #[.int .i64 15, .int .i64 0, .int .i64 0] 47))) := HB6.out.alloc HB6.out.size _; clear hown' hgrow hat HO5)
          | (at_builtin; refine wpList_append_any_at _ rfl _ _ 42 rfl W0.heap.size 47 iT (.agg #[.int .i64 0, .int .i64 0, .int .i64 0]) 3 24 Tryz.underlying42 hi hz0 hz1 hz2 rfl (by decide) _ _ _ rfl HOB.out (some ⟨w6.heap.size, 0, none⟩) w6.heap.size 0 1 1 rfl (fun _ => rfl) [.int .i64 15, .int .i64 0, .int .i64 0] rfl (fun j u h => by have := HC3.out j u h; rwa [addr_add0] at this) (by simp [Value.oneCell']) (by unfold maxLen; omega) (by omega) HBA3.out.size ?_; intro v7 w7 hown' hgrow hat; have HO7 := Lib.hid hown'; have HB7 : Hid (Below W0.heap.size W0 w7) := below_own9 HBA3.out HBA3.out.size HOB.out hgrow; clear hown' hgrow hat HOB))
        go_ret
        refine ⟨_, rfl, hb_step HBA HB7.out, ?_⟩
        rw [HCODE.out]
        have hbl := HBL.out
        have hol := HOL.out
        exact (own_four (n := ol + 1 + bl + 1) (by simp only [List.length_append, List.length_cons, List.length_nil, shiftL_len]; omega) (by rw [insR_one, insR_one]; exact HO7.out)).lower HWS.out
      · have hlen := HLEN.out
        obtain ⟨BC, hBC⟩ : ∃ x, ST.codeL all sc bs 0 = x := ⟨_, rfl⟩
        obtain ⟨EC, hEC⟩ : ∃ x, ST.codeL all sc es 0 = x := ⟨_, rfl⟩
        have hsb := HSB.out
        have hse := HSE.out
        have hjb := HJB.out.1
        have hje := HJB.out.2
        rw [hBC] at hsb hjb
        rw [hEC] at hse hje
        obtain ⟨bl, hbl⟩ : ∃ x, BC.length = x := ⟨_, rfl⟩
        obtain ⟨el, hel⟩ : ∃ x, EC.length = x := ⟨_, rfl⟩
        have hol := HOL.out
        have hb1 := ST.shift_codeL (all := all) (sc := sc) (ol + 1) bs 0 d HNB.out.1
        rw [hBC, Nat.zero_add] at hb1
        have he1 := ST.shift_codeL (all := all) (sc := sc) (ol + 1 + bl + 1) es 0 d HNB.out.2
        rw [hEC, Nat.zero_add] at he1
        have hcode : ST.code all sc (.mk 7 n s l bs es) 0 = L ++ [⟨16, (ol : Int) + 1 + bl + 1, 0⟩] ++ shiftL ((ol : Int) + 1) BC ++ [⟨15, (ol : Int) + 1 + bl + 1 + el, 0⟩] ++ shiftL ((ol : Int) + 1 + bl + 1) EC := by
          simp only [ST.code]
          rw [if_pos (by simp), if_pos (by simp), HLD.out, hol, Nat.zero_add, hb1, shiftL_len, hbl, he1, shiftL_len, hel]
          exact two_jumps _ _ _ (by first | rfl | (congr 1; omega)) (by first | rfl | (congr 1; omega))
        rw [hcode] at hlen
        simp only [List.length_append, List.length_cons, List.length_nil, shiftL_len, hbl, hol, hel] at hlen
        have HCODE := Lib.hid hcode
        have HBL := Lib.hid hbl
        have HEL := Lib.hid hel
        have HSBb := Lib.hid hsb
        have HSEe := Lib.hid hse
        have HJb := Lib.hid hjb
        have HJe := Lib.hid hje
        have HLN := Lib.hid hlen
        have HLT : Hid (∀ k, (Value.slice la ol lc).ownBlock = some k → k < wr.heap.size) := fun k e => (HO.out.lt k e).2
        clear hcode hbl hel hsb hse hjb hje hol hb1 hBC hEC HSB HSE HJB HLEN HXB HNAM he1
        have hby : (ol : Int) + 1 + bl + 1 - 1 - bl = ol + 1 := by omega
        go_wp2_with (first
          | (go_at_call 21; refine (HSBb.out _ HB0r.out).mono ?_; rintro e w2 ⟨v2, rfl, hb2, ho2⟩; obtain ⟨ba, bcap, hbs⟩ := ho2.shape; have hbl := HBL.out; rw [hbl] at hbs; clear hbl; subst hbs; have HBO := Lib.hid ho2; have HO2 := Lib.hid (own_hold9 HO.out hb2); have HSZ2 : Hid (wr.heap.size ≤ w2.heap.size) := hb2.size; have HW02 : Hid (Below W0.heap.size W0 w2) := HENW.out.trans (hb2.mono HB1.out); have HB02 : Hid (Below w0.heap.size w0 w2) := HB0r.out.trans (hb2.mono HB0r.out.size); have HBE2 := Lib.hid ((HW02.out.block _ (lt_of_heap HEB.out)).trans HEB.out); have HBS2 := Lib.hid ((HW02.out.block _ (lt_of_heap HSB2.out)).trans HSB2.out); clear hb2 ho2 HSBb; have x0 : w2.cell? ⟨w.heap.size + 1, 0, none⟩ = some (.int .i64 7) := cell_of_heap HBE2.out 0; have x5 : w2.cell? ⟨w.heap.size + 1, 5, none⟩ = some (.slice ea2 en ec2) := cell_of_heap HBE2.out 5; have u0 : w2.cell? ⟨w.heap.size, 0, none⟩ = some (.string nm) := cell_of_heap HBS2.out 0; have u1 : w2.cell? ⟨w.heap.size, 1, none⟩ = some (.int .i64 pm) := cell_of_heap HBS2.out 1; have u2 : w2.cell? ⟨w.heap.size, 2, none⟩ = some (.slice va vn vc) := cell_of_heap HBS2.out 2; have u3 : w2.cell? ⟨w.heap.size, 3, none⟩ = some (.slice aa an ac) := cell_of_heap HBS2.out 3)
          | (go_at_call 21; refine (HSEe.out _ HB02.out).mono ?_; rintro e w3 ⟨v3, rfl, hb3, ho3⟩; obtain ⟨ea, ecap, hes⟩ := ho3.shape; have hel := HEL.out; rw [hel] at hes; clear hel; subst hes; have HEO := Lib.hid ho3; have HBO3 := Lib.hid (OwnI.stay HBO.out hb3); have HO3 := Lib.hid (own_hold9 HO2.out hb3); have HS23 : Hid (w2.heap.size ≤ w3.heap.size) := hb3.size; have HW03 : Hid (Below W0.heap.size W0 w3) := HW02.out.trans (hb3.mono HW02.out.size); have HBE3 := Lib.hid ((HW03.out.block _ (lt_of_heap HEB.out)).trans HEB.out); have HEK : Hid (∀ k, (Value.slice ea el ecap).ownBlock = some k → w2.heap.size ≤ k ∧ k < w3.heap.size) := fun k e => ho3.lt k e; clear hb3 ho3 HSEe x0 x5 u0 u1 u2 u3; have y0 : w3.cell? ⟨w.heap.size + 1, 0, none⟩ = some (.int .i64 7) := cell_of_heap HBE3.out 0; have HOA := Lib.hid (HO3.out.alloc (.cells #[.int .i64 16, .int .i64 ((ol : Int) + 1 + bl + 1), .int .i64 0] 47)); have HC1 := Lib.hid (cell3_new w3 (.int .i64 16) (.int .i64 ((ol : Int) + 1 + bl + 1)) (.int .i64 0) 47); have HBA1 : Hid (Below W0.heap.size W0 (w3.alloc (.cells #[.int .i64 16, .int .i64 ((ol : Int) + 1 + bl + 1), .int .i64 0] 47))) := HW03.out.alloc HW03.out.size _; have HBO1 : Hid (OwnI wr.heap.size (w3.alloc (.cells #[.int .i64 16, .int .i64 ((ol : Int) + 1 + bl + 1), .int .i64 0] 47)) (.slice ba bl bcap) BC) := Lib.hid (World.ownsRow.alloc HBO3.out (.cells #[.int .i64 16, .int .i64 ((ol : Int) + 1 + bl + 1), .int .i64 0] 47)); have HEO1 : Hid (OwnI w2.heap.size (w3.alloc (.cells #[.int .i64 16, .int .i64 ((ol : Int) + 1 + bl + 1), .int .i64 0] 47)) (.slice ea el ecap) EC) := Lib.hid (World.ownsRow.alloc HEO.out (.cells #[.int .i64 16, .int .i64 ((ol : Int) + 1 + bl + 1), .int .i64 0] 47)))
          | (at_builtin; refine wpList_append_any_at _ rfl _ _ 42 rfl W0.heap.size 47 iT (.agg #[.int .i64 0, .int .i64 0, .int .i64 0]) 3 24 Tryz.underlying42 hi hz0 hz1 hz2 rfl (by decide) _ _ _ rfl HOA.out (some ⟨w3.heap.size, 0, none⟩) w3.heap.size 0 1 1 rfl (fun _ => rfl) [.int .i64 16, .int .i64 ((ol : Int) + 1 + bl + 1), .int .i64 0] rfl (fun j u h => by have := HC1.out j u h; rwa [addr_add0] at this) (by simp [Value.oneCell']) (by unfold maxLen; omega) (by omega) HBA1.out.size ?_; intro v4 w4 hown' hgrow hat; have HO4 := Lib.hid hown'; have HB4 : Hid (Below W0.heap.size W0 w4) := below_own9 HBA1.out HBA1.out.size HOA.out hgrow; have HBO4 : Hid (OwnI wr.heap.size w4 (.slice ba bl bcap) BC) := OwnI.apart HBO1.out hgrow (fun k e h => by have h1 := HLT.out k e; have h2 := (HBO1.out.lt k h).1; omega); have HEO4 : Hid (OwnI w2.heap.size w4 (.slice ea el ecap) EC) := OwnI.apart HEO1.out hgrow (fun k e h => by have h1 := HLT.out k e; have h2 := (HEO1.out.lt k h).1; have h3 := HSZ2.out; omega); have HWH4 : Hid (∀ k, v4.ownBlock = some k → k < wr.heap.size ∨ w3.heap.size ≤ k) := fun k e => hat.elim (fun h => .inl (HLT.out k (h.symm.trans e))) (fun h => .inr (by have e1 := Option.some.inj (h.symm.trans e); rw [World.size_alloc] at e1; omega)); have HS34 : Hid (w3.heap.size ≤ w4.heap.size) := (by show _ ≤ _; have := hgrow.size; rw [World.size_alloc] at this; omega); clear hown' hgrow hat HOA HBO1)
          | (go_at_call 74; refine (moved_r ba bl bcap BC ((ol : Int) + 1) 10000000 (by omega) (by omega) (by omega) HJb.out (by rw [HBL.out]; omega) _ (HBO4.out.isl (by rw [HBL.out]; omega))).mono ?_; rintro e w5 ⟨v5, rfl, hb5, ho5⟩; obtain ⟨ma, mc, hms⟩ := ho5.shape; have hbl := HBL.out; rw [shiftL_len, hbl] at hms; clear hbl; subst hms; have HO5 := Lib.hid (own_hold9 HO4.out hb5); have HB5 : Hid (Below W0.heap.size W0 w5) := HB4.out.trans (hb5.mono HB4.out.size); obtain ⟨hmn, mb, mo, hma, hmc⟩ := (ho5.isl (by rw [shiftL_len, HBL.out]; omega)).src9; have HMA := Lib.hid hma; have HMC := Lib.hid hmc; have HMN := Lib.hid hmn; have HEO5 : Hid (OwnI w2.heap.size w5 (.slice ea el ecap) EC) := OwnI.stay HEO4.out hb5; have HS35 : Hid (w3.heap.size ≤ w5.heap.size) := (by show _ ≤ _; have h1 := hb5.size; have h2 := HS34.out; omega); clear hma hmc hmn hb5 ho5 HBO4)
          | (at_builtin; refine wpList_append_any_at _ rfl _ _ 42 rfl W0.heap.size 47 iT (.agg #[.int .i64 0, .int .i64 0, .int .i64 0]) 3 24 Tryz.underlying42 hi hz0 hz1 hz2 rfl (by decide) _ _ _ rfl HO5.out ma mb mo bl mc rfl HMA.out (insR (shiftL ((ol : Int) + 1) BC)) (by rw [insR_length, ← HMN.out]) HMC.out (insR_ones _) (by unfold maxLen; omega) (by omega) HB5.out.size ?_; intro v6 w6 hown' hgrow hat; have HO6 := Lib.hid hown'; have HB6 : Hid (Below W0.heap.size W0 w6) := below_own9 HB5.out HB5.out.size HO5.out hgrow; have HEO6 : Hid (OwnI w2.heap.size w6 (.slice ea el ecap) EC) := OwnI.apart HEO5.out hgrow (fun k e h => by have h1 := HWH4.out k e; have h2 := HEK.out k h; have h3 := HSZ2.out; omega); have HWH6 : Hid (∀ k, v6.ownBlock = some k → k < wr.heap.size ∨ w3.heap.size ≤ k) := fun k e => hat.elim (fun h => HWH4.out k (h.symm.trans e)) (fun h => .inr (by have e1 := Option.some.inj (h.symm.trans e); have e2 := HS35.out; omega)); have HOB := Lib.hid (HO6.out.alloc (.cells #[.int .i64 15, .int .i64 ((ol : Int) + 1 + bl + 1 + el), .int .i64 0] 47)); have HC3 := Lib.hid (cell3_new w6 (.int .i64 15) (.int .i64 ((ol : Int) + 1 + bl + 1 + el)) (.int .i64 0) 47); have HBA3 : Hid (Below W0.heap.size W0 (w6.alloc (.cells #[.int .i64 15, .int .i64 ((ol : Int) + 1 + bl + 1 + el), .int .i64 0] 47))) := HB6.out.alloc HB6.out.size _; clear hown' hgrow hat HO5)
          | (at_builtin; refine wpList_append_any_at _ rfl _ _ 42 rfl W0.heap.size 47 iT (.agg #[.int .i64 0, .int .i64 0, .int .i64 0]) 3 24 Tryz.underlying42 hi hz0 hz1 hz2 rfl (by decide) _ _ _ rfl HOB.out (some ⟨w6.heap.size, 0, none⟩) w6.heap.size 0 1 1 rfl (fun _ => rfl) [.int .i64 15, .int .i64 ((ol : Int) + 1 + bl + 1 + el), .int .i64 0] rfl (fun j u h => by have := HC3.out j u h; rwa [addr_add0] at this) (by simp [Value.oneCell']) (by unfold maxLen; omega) (by omega) HBA3.out.size ?_; intro v7 w7 hown' hgrow hat; have HO7 := Lib.hid hown'; have HB7 : Hid (Below W0.heap.size W0 w7) := below_own9 HBA3.out HBA3.out.size HOB.out hgrow; have HEO7 : Hid (OwnI w2.heap.size w7 (.slice ea el ecap) EC) := OwnI.apart (World.ownsRow.alloc HEO6.out (.cells #[.int .i64 15, .int .i64 ((ol : Int) + 1 + bl + 1 + el), .int .i64 0] 47)) hgrow (fun k e h => by have h1 := HWH6.out k e; have h2 := HEK.out k h; have h3 := HSZ2.out; omega); clear hown' hgrow hat HOB)
          | (go_at_call 74; refine (moved_r ea el ecap EC ((ol : Int) + 1 + bl + 1) 10000000 (by omega) (by omega) (by omega) HJe.out (by rw [HEL.out]; omega) _ (HEO7.out.isl (by rw [HEL.out]; omega))).mono ?_; rintro e w8 ⟨v8, rfl, hb8, ho8⟩; obtain ⟨na, nc, hns⟩ := ho8.shape; have hel := HEL.out; rw [shiftL_len, hel] at hns; clear hel; subst hns; have HO8 := Lib.hid (own_hold9 HO7.out hb8); have HB8 : Hid (Below W0.heap.size W0 w8) := HB7.out.trans (hb8.mono HB7.out.size); obtain ⟨hnn, nb, no, hna, hnc⟩ := (ho8.isl (by rw [shiftL_len, HEL.out]; omega)).src9; have HNA := Lib.hid hna; have HNC := Lib.hid hnc; have HNN := Lib.hid hnn; clear hna hnc hnn hb8 ho8 HEO7)
          | (at_builtin; refine wpList_append_any_at _ rfl _ _ 42 rfl W0.heap.size 47 iT (.agg #[.int .i64 0, .int .i64 0, .int .i64 0]) 3 24 Tryz.underlying42 hi hz0 hz1 hz2 rfl (by decide) _ _ _ rfl HO8.out na nb no el nc rfl HNA.out (insR (shiftL ((ol : Int) + 1 + bl + 1) EC)) (by rw [insR_length, ← HNN.out]) HNC.out (insR_ones _) (by unfold maxLen; omega) (by omega) HB8.out.size ?_; intro v9 w9 hown' hgrow hat; have HO9 := Lib.hid hown'; have HB9 : Hid (Below W0.heap.size W0 w9) := below_own9 HB8.out HB8.out.size HO8.out hgrow; clear hown' hgrow hat HO8))
        go_ret
        refine ⟨_, rfl, hb_step HBA HB9.out, ?_⟩
        rw [HCODE.out]
        have hbl := HBL.out
        have hol := HOL.out
        have hel := HEL.out
        exact (own_five (n := ol + 1 + bl + 1 + el) (by simp only [List.length_append, List.length_cons, List.length_nil, shiftL_len]; omega) (by rw [insR_one, insR_one]; exact HO9.out)).lower HWS.out
end Go.Proofs.YthjjcmmonjajhaaGreatDoor
