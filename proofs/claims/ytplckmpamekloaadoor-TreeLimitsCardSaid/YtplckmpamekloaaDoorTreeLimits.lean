/- The walk of TreeLimits. -/
import Derived.Test.YtplckmpamekloaaDoorTreeLim
namespace Go.Proofs.YtplckmpamekloaaDoor
open Go.RowKit Go.Sort
set_option linter.unusedVariables false

theorem infoS : (Tryd.prog.info? 9).map (fun i => (i.zero, i.size, i.bytes)) = some (some (.string ⟨#[]⟩), 1, 16) := by kernel_rfl
theorem infoF : (Tryd.prog.info? 35).map (fun i => (i.zero, i.size, i.bytes)) = some (some (.agg #[.string ⟨#[]⟩, .slice none 0 0, .slice none 0 0]), 3, 64) := by kernel_rfl
theorem new_cells (W : World) (xs : List Value) (t : TypeId) : ∀ j u, xs[j]? = some u → (W.alloc (.cells xs.toArray t)).cell? ((⟨W.heap.size, 0, none⟩ : Addr).add j) = some u := by
  intro j u h
  rw [addr_add, Nat.zero_add, cell_of_heap (World.alloc_heap_new W _)]
  simpa using h

set_option maxHeartbeats 8000000 in
set_option maxRecDepth 1000000 in
theorem limits_core (fa pa da xf xp xd : Int) (hf : Go.bits .and .i64 fa 65535 = xf) (hp : Go.bits .and .i64 pa 65535 = xp) (hd : Go.bits .and .i64 da 65535 = xd) (f0 : 0 ≤ xf) (p0 : 0 ≤ xp) (d0 : 0 ≤ xd) (nf np jd : Nat) (hnf : xf % 41 = (nf : Int)) (hnp : xp % 13 = (np : Int)) (hjd : xd % 79 = (jd : Int)) (bf : nf ≤ 40) (bp : np ≤ 12) (bj : jd ≤ 78) (w : World) (ht : Tab w) :
    Calls Tryd.prog 9 #[.int .i64 fa, .int .i64 pa, .int .i64 da] w fun e w' => e = .returned (.bool true) ∧ Below w.heap.size w w' := by
  obtain ⟨i0, hi, hz0, hz1, hz2⟩ := info_parts infoS
  obtain ⟨i1, hi', hz0', hz1', hz2'⟩ := info_parts infoF
  have HT := Lib.hid ht
  have hm1 : Int.tmod xf 41 = (nf : Int) := (Int.tmod_eq_emod_of_nonneg f0).trans hnf
  have hm2 : Int.tmod xp 13 = (np : Int) := (Int.tmod_eq_emod_of_nonneg p0).trans hnp
  have hm3 : Int.tmod xd 79 = (jd : Int) := (Int.tmod_eq_emod_of_nonneg d0).trans hjd
  clear ht hnf hnp hjd
  go_enter Tryd.func9, Tryd.ntmps9
  go_wp2_with (go_at_call 11; refine (shown_r _ HT.out).mono ?_; rintro e w1 ⟨rfl, hb⟩; have HW1 : Hid (Below w.heap.size w w1) := hb; have HT1 : Hid (Tab w1) := HT.out.below hb; clear hb)
  go_loopw [9] (fun i wr => ∃ (k : Nat) (v : Value), i = .int .i64 k ∧ k ≤ np ∧ Hid (wr.heap[w1.heap.size]? = some (.cells #[.string ⟨#[102]⟩, v, .slice none 0 0] 35 (0, 0))) ∧ Hid (wr.ownsRow (w1.heap.size + 1) 9 1 v k (reps [.string ⟨#[112]⟩] k)) ∧ Hid (Below w1.heap.size w1 wr)) (fun i _ => np - (intOf i).toNat)
  case atStart => exact ⟨0, .slice none 0 0, rfl, Nat.zero_le _, World.alloc_heap_new _ _, ⟨rfl, .inl ⟨rfl, rfl⟩⟩, (Below.refl _ _).alloc (Nat.le_refl _) _⟩
  case round =>
    obtain ⟨k, v, rfl, hk, HH, HO, HB⟩ := hrel
    have c1 : wr.cell? ⟨w1.heap.size, 1, none⟩ = some v := cell_of_heap HH.out 1
    have hlw : w1.heap.size < wr.heap.size := lt_of_heap HH.out
    by_cases hlt : k < np
    · have HC1 := Lib.hid (new_cells wr [.string ⟨#[112]⟩] 9)
      have HH1 : Hid ((wr.alloc (.cells #[.string ⟨#[112]⟩] 9)).heap[w1.heap.size]? = some (.cells #[.string ⟨#[102]⟩, v, .slice none 0 0] 35 (0, 0))) := own_of_grown HH.out (World.grownBy_alloc wr _ none) (by simp)
      have HBk : Hid (k ≤ 12) := by show k ≤ 12; omega
      go_wp2_with (at_builtin; refine wpList_append_own _ rfl _ _ 33 rfl (w1.heap.size + 1) 9 i0 (.string ⟨#[]⟩) 1 16 Tryd.underlying33 hi hz0 hz1 hz2 rfl (by decide) _ _ _ rfl (HO.out.alloc _) ⟨wr.heap.size, 0, none⟩ 1 1 [.string ⟨#[112]⟩] rfl rfl HC1.out (by simp [Value.oneCell']) (by have := HBk.out; unfold maxLen; omega) (by have := HBk.out; omega) (by rw [World.size_alloc]; omega) ?_; intro v' w2 hown' hgrow _; obtain ⟨g', cap', rfl⟩ := ownsRow_succ hown'; have HO2 := Lib.hid hown'; have HH2 := Lib.hid (own_of_grown HH1.out hgrow (own_ne HO.out (Nat.lt_succ_self _))); have HB2 : Hid (Below w1.heap.size w1 w2) := below_grown (hb_alloc HB _).out (by rw [World.size_alloc]; omega) hgrow (fun r e => by have := own_ne HO.out (B := r); by_cases hr : r < w1.heap.size + 1; exact absurd e.symm (this hr); omega); have d1 : w2.cell? ⟨w1.heap.size, 1, none⟩ = some v := cell_of_heap HH2.out 1; have f1 : w2.frozen? ⟨w1.heap.size, 1, none⟩ = false := free_of_heap HH2.out 1; clear hown' hgrow)
      go_roundw
      case rel => exact ⟨k + 1, _, by go_num, by omega, heap_set HH2.out 1 _, by show World.ownsRow _ _ _ _ _ _ _; rw [← reps_next]; exact HO2.out.kept (grown_set w2 _ 1 _) (.inr (fun e => own_ne HO2.out (Nat.lt_succ_self _) e.symm)), HB2.out.setCell (p := ⟨w1.heap.size, 1, none⟩) (Nat.le_refl _) _⟩
      case measure => simp [intOf]; omega
    · obtain rfl : k = np := by omega
      obtain ⟨wa, rfl⟩ : ∃ wo : World, wo = wr := ⟨_, rfl⟩
      have hts := own_ts HO.out
      obtain ⟨va, vn, vc, rfl⟩ : ∃ a n c, v = .slice a n c := by obtain ⟨a, c, h⟩ := hts.shape0; exact ⟨a, _, c, h⟩
      have HTS := Lib.hid hts
      clear hts HO
      go_wp2
      go_loopw [11] (fun i wr => ∃ (j : Nat) (u : Value), i = .int .i64 j ∧ j ≤ nf ∧ Hid (wr.heap[wa.heap.size]? = some (.cells #[u, .slice none 0 0] 25 (0, 0))) ∧ Hid (wr.ownsRow (wa.heap.size + 1) 35 3 u j (reps [.string ⟨#[102]⟩, .slice va vn vc, .slice none 0 0] j)) ∧ Hid (Below wa.heap.size wa wr)) (fun i _ => nf - (intOf i).toNat)
      case atStart => exact ⟨0, .slice none 0 0, rfl, Nat.zero_le _, World.alloc_heap_new _ _, ⟨rfl, .inl ⟨rfl, rfl⟩⟩, (Below.refl _ _).alloc (Nat.le_refl _) _⟩
      case round =>
        obtain ⟨j, u, rfl, hj, HH', HO', HB'⟩ := hrel
        have e0 : wr.cell? ⟨wa.heap.size, 0, none⟩ = some u := cell_of_heap HH'.out 0
        have hlw' : wa.heap.size < wr.heap.size := lt_of_heap HH'.out
        have HF : Hid (wr.heap[w1.heap.size]? = some (.cells #[.string ⟨#[102]⟩, .slice va vn vc, .slice none 0 0] 35 (0, 0))) := (HB'.out.block _ hlw).trans HH.out
        by_cases hlt' : j < nf
        · have g0 := cell_of_heap HF.out 0
          have g1 := cell_of_heap HF.out 1
          have g2 := cell_of_heap HF.out 2
          simp only [List.getElem?_toArray, List.getElem?_cons_succ, List.getElem?_cons_zero] at g0 g1 g2
          have HC1 := Lib.hid (new_cells wr [.string ⟨#[102]⟩, .slice va vn vc, .slice none 0 0] 35)
          have HH1 : Hid ((wr.alloc (.cells #[.string ⟨#[102]⟩, .slice va vn vc, .slice none 0 0] 35)).heap[wa.heap.size]? = some (.cells #[u, .slice none 0 0] 25 (0, 0))) := own_of_grown HH'.out (World.grownBy_alloc wr _ none) (by simp)
          have HBk : Hid (j ≤ 40) := by show j ≤ 40; omega
          go_wp2_with (at_builtin; refine wpList_append_own _ rfl _ _ 22 rfl (wa.heap.size + 1) 35 i1 (.agg #[.string ⟨#[]⟩, .slice none 0 0, .slice none 0 0]) 3 64 Tryd.underlying22 hi' hz0' hz1' hz2' rfl (by decide) _ _ _ rfl (HO'.out.alloc _) ⟨wr.heap.size, 0, none⟩ 1 1 [.string ⟨#[102]⟩, .slice va vn vc, .slice none 0 0] rfl rfl HC1.out (by simp [Value.oneCell']) (by have := HBk.out; unfold maxLen; omega) (by have := HBk.out; omega) (by rw [World.size_alloc]; omega) ?_; intro v' w2 hown' hgrow _; obtain ⟨g', cap', rfl⟩ := ownsRow_succ hown'; have HO2 := Lib.hid hown'; have HH2 := Lib.hid (own_of_grown HH1.out hgrow (own_ne HO'.out (Nat.lt_succ_self _))); have HB2 : Hid (Below wa.heap.size wa w2) := below_grown (hb_alloc HB' _).out (by rw [World.size_alloc]; omega) hgrow (fun r e => by have := own_ne HO'.out (B := r); by_cases hr : r < wa.heap.size + 1; exact absurd e.symm (this hr); omega); have d1 : w2.cell? ⟨wa.heap.size, 0, none⟩ = some u := cell_of_heap HH2.out 0; have f1 : w2.frozen? ⟨wa.heap.size, 0, none⟩ = false := free_of_heap HH2.out 0; clear hown' hgrow)
          go_roundw
          case rel => exact ⟨j + 1, _, by go_num, by omega, heap_set HH2.out 0 _, by show World.ownsRow _ _ _ _ _ _ _; rw [← reps_next]; exact HO2.out.kept (grown_set w2 _ 0 _) (.inr (fun e => own_ne HO2.out (Nat.lt_succ_self _) e.symm)), HB2.out.setCell (p := ⟨wa.heap.size, 0, none⟩) (Nat.le_refl _) _⟩
          case measure => simp [intOf]; omega
        · obtain rfl : j = nf := by omega
          obtain ⟨wb, rfl⟩ : ∃ wo : World, wo = wr := ⟨_, rfl⟩
          obtain ⟨ua, un, uc, rfl⟩ : ∃ a n c, u = .slice a n c := by obtain ⟨a, c, h⟩ := (own_fs HO'.out (HTS.out.stay HB'.out)).shape0; exact ⟨a, _, c, h⟩
          go_wp2_with (go_at_call 22; refine (one_r _ _).mono ?_; rintro e w' ⟨rfl, rfl⟩)
          go_loopw [13] (fun i wr => ∃ (c : Nat) (v : Value), i = .int .i64 (c + 2) ∧ c ≤ jd ∧ Hid (wr.heap[wb.heap.size + 1]? = some (.cells #[.int .i64 (chainT c).op, .int .i64 (chainT c).num, .string (chainT c).name, v] 41 (0, 0))) ∧ Hid (Apart wa.heap.size (wb.heap.size + 1) wr v (chainT c).parts) ∧ Hid (Below wb.heap.size wb wr)) (fun i _ => jd + 2 - (intOf i).toNat)
          case atStart => exact ⟨0, .slice none 0 0, rfl, Nat.zero_le _, heap_new2 wb _ _, apart_nil _ _ _, ((Below.refl _ _).alloc (Nat.le_refl _) _).alloc (by simp) _⟩
          case round =>
            obtain ⟨c, v, rfl, hc, HE, HA, HB2⟩ := hrel
            obtain ⟨ya, yn, yc, rfl⟩ : ∃ a n c, v = .slice a n c := by obtain ⟨a, c, h⟩ := HA.out.now.shape0; exact ⟨a, _, c, h⟩
            have f0 := free_of_heap HE.out 0
            have f1 := free_of_heap HE.out 1
            have f2 := free_of_heap HE.out 2
            have f3 := free_of_heap HE.out 3
            have hlw2 : wb.heap.size + 1 < wr.heap.size := lt_of_heap HE.out
            have g0 := cell_of_heap HE.out 0
            have g1 := cell_of_heap HE.out 1
            have g2 := cell_of_heap HE.out 2
            have g3 := cell_of_heap HE.out 3
            simp only [List.getElem?_toArray, List.getElem?_cons_succ, List.getElem?_cons_zero] at g0 g1 g2 g3
            by_cases hlt2 : c < jd
            · go_wp2
              go_roundw
              case rel => exact ⟨c + 1, _, by go_num, by omega, (chain_step HE.out HA.out (by omega) _ rfl).1, (chain_step HE.out HA.out (by omega) _ rfl).2, Below.alloc (Below.setCell (Below.setCell (Below.setCell (Below.setCell HB2.out (p := ⟨wb.heap.size + 1, 0, none⟩) (Nat.le_succ _) _) (p := ⟨wb.heap.size + 1, 1, none⟩) (Nat.le_succ _) _) (p := ⟨wb.heap.size + 1, 2, none⟩) (Nat.le_succ _) _) (p := ⟨wb.heap.size + 1, 3, none⟩) (Nat.le_succ _) _) (by rw [set_size, set_size, set_size, set_size]; exact HB2.out.size) _⟩
              case measure => simp [intOf]; omega
            · obtain rfl : c = jd := by omega
              have HP := Lib.hid ((HB2.out.block _ hlw').trans HH'.out)
              have r0 := cell_of_heap HP.out 0
              have r1 := cell_of_heap HP.out 1
              have p1 := free_of_heap HP.out 1
              simp only [List.getElem?_toArray, List.getElem?_cons_succ, List.getElem?_cons_zero] at r0 r1
              have hlw3 : wa.heap.size < wr.heap.size := Nat.lt_of_lt_of_le hlw' HB2.out.size
              have hX := hb_step (hb_step (hb_step HW1 HB.out) HB'.out) HB2.out
              have hs1 : w.heap.size ≤ wa.heap.size := Nat.le_trans HW1.out.size HB.out.size
              have hY := hX.out.setCell (p := ⟨wa.heap.size, 1, none⟩) hs1 (.slice (some ⟨wr.heap.size + 1, 0, none⟩) 1 1)
              have HW3 : Hid (Below w.heap.size w (((wr.setCell ⟨wa.heap.size, 1, none⟩ (.slice (some ⟨wr.heap.size + 1, 0, none⟩) 1 1)).alloc (.cells #[.int .i64 (chainT c).op, .int .i64 (chainT c).num, .string (chainT c).name, .slice ya yn yc] 41)).alloc (.cells #[.int .i64 6, .string ⟨#[]⟩, .int .i64 0, .slice (some ⟨wr.heap.size, 0, none⟩) 1 1, .slice none 0 0, .slice none 0 0] 38))) := hb_alloc (hb_alloc hY _) _
              have HT3 := Lib.hid (HT.out.below HW3.out)
              obtain ⟨hM, k0, k1⟩ := main_step HP.out HA.out _ rfl
              have hV := (HB'.out.trans (HB2.out.mono HB'.out.size)).setCell (p := ⟨wa.heap.size, 1, none⟩) (Nat.le_refl _) (.slice (some ⟨wr.heap.size + 1, 0, none⟩) 1 1)
              have hV' : Below wa.heap.size wa (((wr.setCell ⟨wa.heap.size, 1, none⟩ (.slice (some ⟨wr.heap.size + 1, 0, none⟩) 1 1)).alloc (.cells #[.int .i64 (chainT c).op, .int .i64 (chainT c).num, .string (chainT c).name, .slice ya yn yc] 41)).alloc (.cells #[.int .i64 6, .string ⟨#[]⟩, .int .i64 0, .slice (some ⟨wr.heap.size, 0, none⟩) 1 1, .slice none 0 0, .slice none 0 0] 38)) := hb_alloc (hb_alloc hV _) _
              have hO := (((own_stay HO'.out HB2.out).kept (grown_set wr wa.heap.size 1 (.slice (some ⟨wr.heap.size + 1, 0, none⟩) 1 1)) (.inr (fun e => own_ne HO'.out (Nat.lt_succ_self _) e.symm))).alloc (.cells #[.int .i64 (chainT c).op, .int .i64 (chainT c).num, .string (chainT c).name, .slice ya yn yc] 41)).alloc (.cells #[.int .i64 6, .string ⟨#[]⟩, .int .i64 0, .slice (some ⟨wr.heap.size, 0, none⟩) 1 1, .slice none 0 0, .slice none 0 0] 38)
              have HPR := Lib.hid (PR.of (own_fs hO (HTS.out.stay hV')) hM)
              clear hM hO hV hV' hX hY HO' HTS HA HE HF HH HH' HB2 HB' HB HP
              have hdd := lim_depth j k c (by omega)
              have hss := lim_size j k c (by omega)
              have hrr := lim_right j k c (by omega)
              have HRD := Lib.hid (hdd.trans (Int.add_comm _ _))
              have HRS := Lib.hid (hss.trans (Int.add_comm _ _))
              clear hdd hss
              have hcase : (32 < j ∨ (¬ 32 < j ∧ 0 < j ∧ 8 < k) ∨ (¬ 32 < j ∧ 0 < j ∧ ¬ 8 < k) ∨ (¬ 32 < j ∧ ¬ 0 < j)) ∧ (62 < c ∨ ¬ 62 < c) := by omega
              rcases hcase with ⟨q | ⟨q, q2, q3⟩ | ⟨q, q2, q3⟩ | ⟨q, q2⟩, q4 | q4⟩
              · have HRR : Hid (PT.right _ = 1) := Lib.hid (hrr.trans (if_pos (by omega)))
                clear hrr
                go_wp2_with (first
                  | (go_at_call 12; (with_reducible refine (right_r _ _ _ _ _ _ (limP j k c) _ HT3.out HPR.out 1 HRR.out).mono ?_); rintro e w4 ⟨rfl, hb⟩; have HT3 := Lib.hid (HT3.out.below hb); have HPR := Lib.hid (HPR.out.stay hb); have k0 := (hb.cell (p := ⟨wa.heap.size, 0, none⟩) (lt_of_cell k0)).trans k0; have k1 := (hb.cell (p := ⟨wa.heap.size, 1, none⟩) (lt_of_cell k1)).trans k1; have HW3 := hb_step HW3 hb; clear hb)
                  | (go_at_call 14; (with_reducible refine (depth_r _ _ _ _ _ _ (limP j k c) _ HT3.out HPR.out _ HRD.out).mono ?_); rintro e w4 ⟨rfl, hb⟩; have HT3 := Lib.hid (HT3.out.below hb); have HPR := Lib.hid (HPR.out.stay hb); have k0 := (hb.cell (p := ⟨wa.heap.size, 0, none⟩) (lt_of_cell k0)).trans k0; have k1 := (hb.cell (p := ⟨wa.heap.size, 1, none⟩) (lt_of_cell k1)).trans k1; have HW3 := hb_step HW3 hb; clear hb)
                  | (go_at_call 16; (with_reducible refine (size_r _ _ _ _ _ _ (limP j k c) _ HT3.out HPR.out _ HRS.out).mono ?_); rintro e w4 ⟨rfl, hb⟩; have HT3 := Lib.hid (HT3.out.below hb); have HPR := Lib.hid (HPR.out.stay hb); have k0 := (hb.cell (p := ⟨wa.heap.size, 0, none⟩) (lt_of_cell k0)).trans k0; have k1 := (hb.cell (p := ⟨wa.heap.size, 1, none⟩) (lt_of_cell k1)).trans k1; have HW3 := hb_step HW3 hb; clear hb))
                go_ret
                exact ⟨rfl, HW3.out⟩
              · have HRR : Hid (PT.right _ = 1) := Lib.hid (hrr.trans (if_pos (by omega)))
                clear hrr
                go_wp2_with (first
                  | (go_at_call 12; (with_reducible refine (right_r _ _ _ _ _ _ (limP j k c) _ HT3.out HPR.out 1 HRR.out).mono ?_); rintro e w4 ⟨rfl, hb⟩; have HT3 := Lib.hid (HT3.out.below hb); have HPR := Lib.hid (HPR.out.stay hb); have k0 := (hb.cell (p := ⟨wa.heap.size, 0, none⟩) (lt_of_cell k0)).trans k0; have k1 := (hb.cell (p := ⟨wa.heap.size, 1, none⟩) (lt_of_cell k1)).trans k1; have HW3 := hb_step HW3 hb; clear hb)
                  | (go_at_call 14; (with_reducible refine (depth_r _ _ _ _ _ _ (limP j k c) _ HT3.out HPR.out _ HRD.out).mono ?_); rintro e w4 ⟨rfl, hb⟩; have HT3 := Lib.hid (HT3.out.below hb); have HPR := Lib.hid (HPR.out.stay hb); have k0 := (hb.cell (p := ⟨wa.heap.size, 0, none⟩) (lt_of_cell k0)).trans k0; have k1 := (hb.cell (p := ⟨wa.heap.size, 1, none⟩) (lt_of_cell k1)).trans k1; have HW3 := hb_step HW3 hb; clear hb)
                  | (go_at_call 16; (with_reducible refine (size_r _ _ _ _ _ _ (limP j k c) _ HT3.out HPR.out _ HRS.out).mono ?_); rintro e w4 ⟨rfl, hb⟩; have HT3 := Lib.hid (HT3.out.below hb); have HPR := Lib.hid (HPR.out.stay hb); have k0 := (hb.cell (p := ⟨wa.heap.size, 0, none⟩) (lt_of_cell k0)).trans k0; have k1 := (hb.cell (p := ⟨wa.heap.size, 1, none⟩) (lt_of_cell k1)).trans k1; have HW3 := hb_step HW3 hb; clear hb))
                go_ret
                exact ⟨rfl, HW3.out⟩
              · have HRR : Hid (PT.right _ = 1) := Lib.hid (hrr.trans (if_pos (by omega)))
                clear hrr
                go_wp2_with (first
                  | (go_at_call 12; (with_reducible refine (right_r _ _ _ _ _ _ (limP j k c) _ HT3.out HPR.out 1 HRR.out).mono ?_); rintro e w4 ⟨rfl, hb⟩; have HT3 := Lib.hid (HT3.out.below hb); have HPR := Lib.hid (HPR.out.stay hb); have k0 := (hb.cell (p := ⟨wa.heap.size, 0, none⟩) (lt_of_cell k0)).trans k0; have k1 := (hb.cell (p := ⟨wa.heap.size, 1, none⟩) (lt_of_cell k1)).trans k1; have HW3 := hb_step HW3 hb; clear hb)
                  | (go_at_call 14; (with_reducible refine (depth_r _ _ _ _ _ _ (limP j k c) _ HT3.out HPR.out _ HRD.out).mono ?_); rintro e w4 ⟨rfl, hb⟩; have HT3 := Lib.hid (HT3.out.below hb); have HPR := Lib.hid (HPR.out.stay hb); have k0 := (hb.cell (p := ⟨wa.heap.size, 0, none⟩) (lt_of_cell k0)).trans k0; have k1 := (hb.cell (p := ⟨wa.heap.size, 1, none⟩) (lt_of_cell k1)).trans k1; have HW3 := hb_step HW3 hb; clear hb)
                  | (go_at_call 16; (with_reducible refine (size_r _ _ _ _ _ _ (limP j k c) _ HT3.out HPR.out _ HRS.out).mono ?_); rintro e w4 ⟨rfl, hb⟩; have HT3 := Lib.hid (HT3.out.below hb); have HPR := Lib.hid (HPR.out.stay hb); have k0 := (hb.cell (p := ⟨wa.heap.size, 0, none⟩) (lt_of_cell k0)).trans k0; have k1 := (hb.cell (p := ⟨wa.heap.size, 1, none⟩) (lt_of_cell k1)).trans k1; have HW3 := hb_step HW3 hb; clear hb))
                go_ret
                exact ⟨rfl, HW3.out⟩
              · have HRR : Hid (PT.right _ = 1) := Lib.hid (hrr.trans (if_pos (by omega)))
                clear hrr
                go_wp2_with (first
                  | (go_at_call 12; (with_reducible refine (right_r _ _ _ _ _ _ (limP j k c) _ HT3.out HPR.out 1 HRR.out).mono ?_); rintro e w4 ⟨rfl, hb⟩; have HT3 := Lib.hid (HT3.out.below hb); have HPR := Lib.hid (HPR.out.stay hb); have k0 := (hb.cell (p := ⟨wa.heap.size, 0, none⟩) (lt_of_cell k0)).trans k0; have k1 := (hb.cell (p := ⟨wa.heap.size, 1, none⟩) (lt_of_cell k1)).trans k1; have HW3 := hb_step HW3 hb; clear hb)
                  | (go_at_call 14; (with_reducible refine (depth_r _ _ _ _ _ _ (limP j k c) _ HT3.out HPR.out _ HRD.out).mono ?_); rintro e w4 ⟨rfl, hb⟩; have HT3 := Lib.hid (HT3.out.below hb); have HPR := Lib.hid (HPR.out.stay hb); have k0 := (hb.cell (p := ⟨wa.heap.size, 0, none⟩) (lt_of_cell k0)).trans k0; have k1 := (hb.cell (p := ⟨wa.heap.size, 1, none⟩) (lt_of_cell k1)).trans k1; have HW3 := hb_step HW3 hb; clear hb)
                  | (go_at_call 16; (with_reducible refine (size_r _ _ _ _ _ _ (limP j k c) _ HT3.out HPR.out _ HRS.out).mono ?_); rintro e w4 ⟨rfl, hb⟩; have HT3 := Lib.hid (HT3.out.below hb); have HPR := Lib.hid (HPR.out.stay hb); have k0 := (hb.cell (p := ⟨wa.heap.size, 0, none⟩) (lt_of_cell k0)).trans k0; have k1 := (hb.cell (p := ⟨wa.heap.size, 1, none⟩) (lt_of_cell k1)).trans k1; have HW3 := hb_step HW3 hb; clear hb))
                go_ret
                exact ⟨rfl, HW3.out⟩
              · have HRR : Hid (PT.right _ = 3) := Lib.hid (hrr.trans ((if_neg (by omega)).trans (if_pos (by omega))))
                clear hrr
                go_wp2_with (first
                  | (go_at_call 12; (with_reducible refine (right_r _ _ _ _ _ _ (limP j k c) _ HT3.out HPR.out 3 HRR.out).mono ?_); rintro e w4 ⟨rfl, hb⟩; have HT3 := Lib.hid (HT3.out.below hb); have HPR := Lib.hid (HPR.out.stay hb); have k0 := (hb.cell (p := ⟨wa.heap.size, 0, none⟩) (lt_of_cell k0)).trans k0; have k1 := (hb.cell (p := ⟨wa.heap.size, 1, none⟩) (lt_of_cell k1)).trans k1; have HW3 := hb_step HW3 hb; clear hb)
                  | (go_at_call 14; (with_reducible refine (depth_r _ _ _ _ _ _ (limP j k c) _ HT3.out HPR.out _ HRD.out).mono ?_); rintro e w4 ⟨rfl, hb⟩; have HT3 := Lib.hid (HT3.out.below hb); have HPR := Lib.hid (HPR.out.stay hb); have k0 := (hb.cell (p := ⟨wa.heap.size, 0, none⟩) (lt_of_cell k0)).trans k0; have k1 := (hb.cell (p := ⟨wa.heap.size, 1, none⟩) (lt_of_cell k1)).trans k1; have HW3 := hb_step HW3 hb; clear hb)
                  | (go_at_call 16; (with_reducible refine (size_r _ _ _ _ _ _ (limP j k c) _ HT3.out HPR.out _ HRS.out).mono ?_); rintro e w4 ⟨rfl, hb⟩; have HT3 := Lib.hid (HT3.out.below hb); have HPR := Lib.hid (HPR.out.stay hb); have k0 := (hb.cell (p := ⟨wa.heap.size, 0, none⟩) (lt_of_cell k0)).trans k0; have k1 := (hb.cell (p := ⟨wa.heap.size, 1, none⟩) (lt_of_cell k1)).trans k1; have HW3 := hb_step HW3 hb; clear hb))
                go_ret
                exact ⟨rfl, HW3.out⟩
              · have HRR : Hid (PT.right _ = 0) := Lib.hid (hrr.trans ((if_neg (by omega)).trans (if_neg (by omega))))
                clear hrr
                go_wp2_with (first
                  | (go_at_call 12; (with_reducible refine (right_r _ _ _ _ _ _ (limP j k c) _ HT3.out HPR.out 0 HRR.out).mono ?_); rintro e w4 ⟨rfl, hb⟩; have HT3 := Lib.hid (HT3.out.below hb); have HPR := Lib.hid (HPR.out.stay hb); have k0 := (hb.cell (p := ⟨wa.heap.size, 0, none⟩) (lt_of_cell k0)).trans k0; have k1 := (hb.cell (p := ⟨wa.heap.size, 1, none⟩) (lt_of_cell k1)).trans k1; have HW3 := hb_step HW3 hb; clear hb)
                  | (go_at_call 14; (with_reducible refine (depth_r _ _ _ _ _ _ (limP j k c) _ HT3.out HPR.out _ HRD.out).mono ?_); rintro e w4 ⟨rfl, hb⟩; have HT3 := Lib.hid (HT3.out.below hb); have HPR := Lib.hid (HPR.out.stay hb); have k0 := (hb.cell (p := ⟨wa.heap.size, 0, none⟩) (lt_of_cell k0)).trans k0; have k1 := (hb.cell (p := ⟨wa.heap.size, 1, none⟩) (lt_of_cell k1)).trans k1; have HW3 := hb_step HW3 hb; clear hb)
                  | (go_at_call 16; (with_reducible refine (size_r _ _ _ _ _ _ (limP j k c) _ HT3.out HPR.out _ HRS.out).mono ?_); rintro e w4 ⟨rfl, hb⟩; have HT3 := Lib.hid (HT3.out.below hb); have HPR := Lib.hid (HPR.out.stay hb); have k0 := (hb.cell (p := ⟨wa.heap.size, 0, none⟩) (lt_of_cell k0)).trans k0; have k1 := (hb.cell (p := ⟨wa.heap.size, 1, none⟩) (lt_of_cell k1)).trans k1; have HW3 := hb_step HW3 hb; clear hb))
                go_ret
                exact ⟨rfl, HW3.out⟩
              · have HRR : Hid (PT.right _ = 3) := Lib.hid (hrr.trans ((if_neg (by omega)).trans (if_pos (by omega))))
                clear hrr
                go_wp2_with (first
                  | (go_at_call 12; (with_reducible refine (right_r _ _ _ _ _ _ (limP j k c) _ HT3.out HPR.out 3 HRR.out).mono ?_); rintro e w4 ⟨rfl, hb⟩; have HT3 := Lib.hid (HT3.out.below hb); have HPR := Lib.hid (HPR.out.stay hb); have k0 := (hb.cell (p := ⟨wa.heap.size, 0, none⟩) (lt_of_cell k0)).trans k0; have k1 := (hb.cell (p := ⟨wa.heap.size, 1, none⟩) (lt_of_cell k1)).trans k1; have HW3 := hb_step HW3 hb; clear hb)
                  | (go_at_call 14; (with_reducible refine (depth_r _ _ _ _ _ _ (limP j k c) _ HT3.out HPR.out _ HRD.out).mono ?_); rintro e w4 ⟨rfl, hb⟩; have HT3 := Lib.hid (HT3.out.below hb); have HPR := Lib.hid (HPR.out.stay hb); have k0 := (hb.cell (p := ⟨wa.heap.size, 0, none⟩) (lt_of_cell k0)).trans k0; have k1 := (hb.cell (p := ⟨wa.heap.size, 1, none⟩) (lt_of_cell k1)).trans k1; have HW3 := hb_step HW3 hb; clear hb)
                  | (go_at_call 16; (with_reducible refine (size_r _ _ _ _ _ _ (limP j k c) _ HT3.out HPR.out _ HRS.out).mono ?_); rintro e w4 ⟨rfl, hb⟩; have HT3 := Lib.hid (HT3.out.below hb); have HPR := Lib.hid (HPR.out.stay hb); have k0 := (hb.cell (p := ⟨wa.heap.size, 0, none⟩) (lt_of_cell k0)).trans k0; have k1 := (hb.cell (p := ⟨wa.heap.size, 1, none⟩) (lt_of_cell k1)).trans k1; have HW3 := hb_step HW3 hb; clear hb))
                go_ret
                exact ⟨rfl, HW3.out⟩
              · have HRR : Hid (PT.right _ = 0) := Lib.hid (hrr.trans ((if_neg (by omega)).trans (if_neg (by omega))))
                clear hrr
                go_wp2_with (first
                  | (go_at_call 12; (with_reducible refine (right_r _ _ _ _ _ _ (limP j k c) _ HT3.out HPR.out 0 HRR.out).mono ?_); rintro e w4 ⟨rfl, hb⟩; have HT3 := Lib.hid (HT3.out.below hb); have HPR := Lib.hid (HPR.out.stay hb); have k0 := (hb.cell (p := ⟨wa.heap.size, 0, none⟩) (lt_of_cell k0)).trans k0; have k1 := (hb.cell (p := ⟨wa.heap.size, 1, none⟩) (lt_of_cell k1)).trans k1; have HW3 := hb_step HW3 hb; clear hb)
                  | (go_at_call 14; (with_reducible refine (depth_r _ _ _ _ _ _ (limP j k c) _ HT3.out HPR.out _ HRD.out).mono ?_); rintro e w4 ⟨rfl, hb⟩; have HT3 := Lib.hid (HT3.out.below hb); have HPR := Lib.hid (HPR.out.stay hb); have k0 := (hb.cell (p := ⟨wa.heap.size, 0, none⟩) (lt_of_cell k0)).trans k0; have k1 := (hb.cell (p := ⟨wa.heap.size, 1, none⟩) (lt_of_cell k1)).trans k1; have HW3 := hb_step HW3 hb; clear hb)
                  | (go_at_call 16; (with_reducible refine (size_r _ _ _ _ _ _ (limP j k c) _ HT3.out HPR.out _ HRS.out).mono ?_); rintro e w4 ⟨rfl, hb⟩; have HT3 := Lib.hid (HT3.out.below hb); have HPR := Lib.hid (HPR.out.stay hb); have k0 := (hb.cell (p := ⟨wa.heap.size, 0, none⟩) (lt_of_cell k0)).trans k0; have k1 := (hb.cell (p := ⟨wa.heap.size, 1, none⟩) (lt_of_cell k1)).trans k1; have HW3 := hb_step HW3 hb; clear hb))
                go_ret
                exact ⟨rfl, HW3.out⟩

theorem limits_walk (fa pa da : Int) (w : World) (ht : Tab w) :
    Calls Tryd.prog 9 #[.int .i64 fa, .int .i64 pa, .int .i64 da] w fun e w' => e = .returned (.bool true) ∧ Below w.heap.size w w' := by
  obtain ⟨xf, hf, f0, f1⟩ := bits_16 fa
  obtain ⟨xp, hp, p0, p1⟩ := bits_16 pa
  obtain ⟨xd, hd, d0, d1⟩ := bits_16 da
  obtain ⟨nf, hnf⟩ : ∃ m : Nat, xf % 41 = (m : Int) := ⟨(xf % 41).toNat, by omega⟩
  obtain ⟨np, hnp⟩ : ∃ m : Nat, xp % 13 = (m : Int) := ⟨(xp % 13).toNat, by omega⟩
  obtain ⟨jd, hjd⟩ : ∃ m : Nat, xd % 79 = (m : Int) := ⟨(xd % 79).toNat, by omega⟩
  exact limits_core fa pa da xf xp xd hf hp hd f0 p0 d0 nf np jd hnf hnp hjd (by omega) (by omega) (by omega) w ht
end Go.Proofs.YtplckmpamekloaaDoor
