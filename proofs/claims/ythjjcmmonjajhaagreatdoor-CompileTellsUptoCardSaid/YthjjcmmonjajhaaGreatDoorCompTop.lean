/- CompileTells' walk. CompileTells, from what came in. -/
import Derived.Test.YthjjcmmonjajhaaGreatDoorRefRes
import Derived.Test.YthjjcmmonjajhaaGreatDoorRefComp
import Derived.Test.YthjjcmmonjajhaaGreatDoorCompShows
import Derived.Test.YthjjcmmonjajhaaGreatDoorCompile
import Derived.BigQuiet
import Derived.Test.YthjjcmmonjajhaaGreatDoorBulks
namespace Go.Proofs.YthjjcmmonjajhaaGreatDoor
open Go.RowKit Go.Sort
set_option linter.unusedVariables false

theorem ISl.row9t {w : World} {a : Option Addr} {n cap : Nat} {l : List VI} (h : ISl w (.slice a n cap) l) : n = l.length ∧ ∃ b off, (0 < n → a = some ⟨b, off, none⟩) ∧ n ≤ cap ∧ cap ≤ maxLen ∧ ∀ i, i < n → w.cell? ⟨b, off + i * 3, none⟩ = some (.int .i64 (l.getD i default).op) ∧ w.cell? ⟨b, off + i * 3 + 1, none⟩ = some (.int .i64 (l.getD i default).a) ∧ w.cell? ⟨b, off + i * 3 + 2, none⟩ = some (.int .i64 (l.getD i default).n) := by
  generalize hv : Value.slice a n cap = v at h
  cases h with
  | mk a' b off cap' l' ha hc hm hs hcell => cases hv; exact ⟨rfl, b, off, ha, hc, hm, hcell⟩

set_option maxHeartbeats 16000000 in
set_option maxRecDepth 1000000 in
theorem tells_core (a1 a2 : Option Addr) (n1 n2 k1 k2 : Nat) (p : PT) (mb mn : Nat) (w : World) (ht : TabAll w mb mn) (hp : PR w (.slice a1 n1 k1) (.slice a2 n2 k2) p) (hnum : p.numP) (hN : p.nodes.length ≤ 1048576) :
    Calls Tryz.prog 3 #[.agg #[.slice a1 n1 k1, .slice a2 n2 k2]] w fun e w' => e = .returned (.bool true) ∧ Below w.heap.size w w' := by
  obtain ⟨r, hr⟩ : ∃ r, p.resolve = r := ⟨_, rfl⟩
  obtain ⟨rq, hrq⟩ : ∃ r, p.right = r := ⟨_, rfl⟩
  have HT := Lib.hid ht
  have HP := Lib.hid hp
  have HN := Lib.hid hN
  have HNum := Lib.hid hnum
  have HB0 := hb_start w
  have HBA : Hid (Below w.heap.size w (w.alloc (.cells #[.slice a1 n1 k1, .slice a2 n2 k2] 25))) := hb_alloc HB0 _
  have HXA : Hid ((w.alloc (.cells #[.slice a1 n1 k1, .slice a2 n2 k2] 25)).heap[w.heap.size]? = some (.cells #[.slice a1 n1 k1, .slice a2 n2 k2] 25 (0, 0))) := heap_alloc_new _ _
  have hcase : (rq ≠ 0 ∧ r = rq ∧ (rq == 0) = false ∧ (rq != 0) = true) ∨ (rq = 0 ∧ r ≠ 0 ∧ (r == 0) = false ∧ (r != 0) = true) ∨ (rq = 0 ∧ r = 0) := by
    by_cases h : rq = 0
    · by_cases h1 : r = 0
      · exact .inr (.inr ⟨h, h1⟩)
      · exact .inr (.inl ⟨h, h1, by simpa using h1, by simpa using h1⟩)
    · refine .inl ⟨h, ?_, by simpa using h, by simpa using h⟩
      rw [← hr]; unfold PT.resolve
      rw [if_neg (by rw [hrq]; exact h), hrq]
  have HR := Lib.hid hr
  have HQ := Lib.hid hrq
  clear ht hp hN hnum hr hrq
  rcases hcase with ⟨h0, rfl, h1, h2⟩ | ⟨rfl, h0, h1, h2⟩ | ⟨rfl, rfl⟩
  · have H0 := Lib.hid h0
    clear h0
    go_enter Tryz.func3, Tryz.ntmps3
    go_wp2_with fail
    refine (shown_r mb mn _ (HT.out.below HBA.out)).mono ?_
    rintro e w1 ⟨rfl, hb⟩
    have HB1 : Hid (Below w.heap.size w w1) := hb_step HBA hb
    have HX1 := Lib.hid ((hb.block _ (lt_of_heap HXA.out)).trans HXA.out)
    have c0 : w1.cell? ⟨w.heap.size, 0, none⟩ = some (.slice a1 n1 k1) := cell_of_heap HX1.out 0
    have c1 : w1.cell? ⟨w.heap.size, 1, none⟩ = some (.slice a2 n2 k2) := cell_of_heap HX1.out 1
    clear hb
    go_wp2_with fail
    refine (compile_r a1 a2 n1 n2 k1 k2 p mb mn _ (HT.out.below HB1.out).tree (HT.out.below HB1.out).smp (HP.out.stay HB1.out) (by have := HN.out; omega) _ HR.out).mono ?_
    rintro e w2 ⟨v, rfl, hb, hv⟩
    have HB2 : Hid (Below w.heap.size w w2) := hb_step HB1 hb
    rw [if_neg H0.out] at hv
    obtain ⟨va, vc, rfl⟩ := hv.shape
    simp only [List.length_nil] at hv ⊢
    have HBX0 : Hid (Below w2.heap.size w2 (w2.alloc (.cells #[.slice va 0 vc] 29))) := (Below.refl _ _).alloc (Nat.le_refl _) _
    have HV := Lib.hid (hv.stay HBX0.out)
    have HBX : Hid (Below w.heap.size w (w2.alloc (.cells #[.slice va 0 vc] 29))) := hb_alloc HB2 _
    have HXC : Hid ((w2.alloc (.cells #[.slice va 0 vc] 29)).heap[w2.heap.size]? = some (.cells #[.slice va 0 vc] 29 (0, 0))) := heap_alloc_new _ _
    have HX2 := Lib.hid ((Below.heap_alloc w2 (.cells #[.slice va 0 vc] 29) w.heap.size (Nat.lt_of_lt_of_le (lt_of_heap HX1.out) hb.size)).trans ((hb.block _ (lt_of_heap HX1.out)).trans HX1.out))
    clear c0 c1
    have c0 : (w2.alloc (.cells #[.slice va 0 vc] 29)).cell? ⟨w.heap.size, 0, none⟩ = some (.slice a1 n1 k1) := cell_of_heap HX2.out 0
    have c1 : (w2.alloc (.cells #[.slice va 0 vc] 29)).cell? ⟨w.heap.size, 1, none⟩ = some (.slice a2 n2 k2) := cell_of_heap HX2.out 1
    clear hb hv
    go_wp2_with fail
    refine (right_r a1 a2 n1 n2 k1 k2 p _ (HT.out.below HBX.out).tree (HP.out.stay HBX.out) _ HQ.out).mono ?_
    rintro e w3 ⟨rfl, hb⟩
    have HB3 : Hid (Below w.heap.size w w3) := hb_step HBX hb
    have HV3 := Lib.hid (HV.out.stay (hb.mono (Nat.le_refl _)))
    have HXC3 := Lib.hid ((hb.block _ (lt_of_heap HXC.out)).trans HXC.out)
    have HX3 := Lib.hid ((hb.block _ (lt_of_heap HX2.out)).trans HX2.out)
    clear hb c0 c1 HX2 HXC HBX HBX0 HV HX1 HXA HBA HB2 HB1
    have c0 : w3.cell? ⟨w.heap.size, 0, none⟩ = some (.slice a1 n1 k1) := cell_of_heap HX3.out 0
    have c1 : w3.cell? ⟨w.heap.size, 1, none⟩ = some (.slice a2 n2 k2) := cell_of_heap HX3.out 1
    have d0 : w3.cell? ⟨w2.heap.size, 0, none⟩ = some (.slice va 0 vc) := cell_of_heap HXC3.out 0
    go_wp2_with fail
    go_ret
    exact ⟨rfl, HB3.out⟩
  · have H0 := Lib.hid h0
    clear h0
    go_enter Tryz.func3, Tryz.ntmps3
    go_wp2_with fail
    refine (shown_r mb mn _ (HT.out.below HBA.out)).mono ?_
    rintro e w1 ⟨rfl, hb⟩
    have HB1 : Hid (Below w.heap.size w w1) := hb_step HBA hb
    have HX1 := Lib.hid ((hb.block _ (lt_of_heap HXA.out)).trans HXA.out)
    have c0 : w1.cell? ⟨w.heap.size, 0, none⟩ = some (.slice a1 n1 k1) := cell_of_heap HX1.out 0
    have c1 : w1.cell? ⟨w.heap.size, 1, none⟩ = some (.slice a2 n2 k2) := cell_of_heap HX1.out 1
    clear hb
    go_wp2_with fail
    refine (compile_r a1 a2 n1 n2 k1 k2 p mb mn _ (HT.out.below HB1.out).tree (HT.out.below HB1.out).smp (HP.out.stay HB1.out) (by have := HN.out; omega) _ HR.out).mono ?_
    rintro e w2 ⟨v, rfl, hb, hv⟩
    have HB2 : Hid (Below w.heap.size w w2) := hb_step HB1 hb
    rw [if_neg H0.out] at hv
    obtain ⟨va, vc, rfl⟩ := hv.shape
    simp only [List.length_nil] at hv ⊢
    have HBX0 : Hid (Below w2.heap.size w2 (w2.alloc (.cells #[.slice va 0 vc] 29))) := (Below.refl _ _).alloc (Nat.le_refl _) _
    have HV := Lib.hid (hv.stay HBX0.out)
    have HBX : Hid (Below w.heap.size w (w2.alloc (.cells #[.slice va 0 vc] 29))) := hb_alloc HB2 _
    have HXC : Hid ((w2.alloc (.cells #[.slice va 0 vc] 29)).heap[w2.heap.size]? = some (.cells #[.slice va 0 vc] 29 (0, 0))) := heap_alloc_new _ _
    have HX2 := Lib.hid ((Below.heap_alloc w2 (.cells #[.slice va 0 vc] 29) w.heap.size (Nat.lt_of_lt_of_le (lt_of_heap HX1.out) hb.size)).trans ((hb.block _ (lt_of_heap HX1.out)).trans HX1.out))
    clear c0 c1
    have c0 : (w2.alloc (.cells #[.slice va 0 vc] 29)).cell? ⟨w.heap.size, 0, none⟩ = some (.slice a1 n1 k1) := cell_of_heap HX2.out 0
    have c1 : (w2.alloc (.cells #[.slice va 0 vc] 29)).cell? ⟨w.heap.size, 1, none⟩ = some (.slice a2 n2 k2) := cell_of_heap HX2.out 1
    clear hb hv
    go_wp2_with fail
    refine (right_r a1 a2 n1 n2 k1 k2 p _ (HT.out.below HBX.out).tree (HP.out.stay HBX.out) _ HQ.out).mono ?_
    rintro e w3 ⟨rfl, hb⟩
    have HB3 : Hid (Below w.heap.size w w3) := hb_step HBX hb
    have HV3 := Lib.hid (HV.out.stay (hb.mono (Nat.le_refl _)))
    have HXC3 := Lib.hid ((hb.block _ (lt_of_heap HXC.out)).trans HXC.out)
    have HX3 := Lib.hid ((hb.block _ (lt_of_heap HX2.out)).trans HX2.out)
    clear hb c0 c1 HX2 HXC HBX HBX0 HV HX1 HXA HBA HB2 HB1
    have c0 : w3.cell? ⟨w.heap.size, 0, none⟩ = some (.slice a1 n1 k1) := cell_of_heap HX3.out 0
    have c1 : w3.cell? ⟨w.heap.size, 1, none⟩ = some (.slice a2 n2 k2) := cell_of_heap HX3.out 1
    have d0 : w3.cell? ⟨w2.heap.size, 0, none⟩ = some (.slice va 0 vc) := cell_of_heap HXC3.out 0
    go_wp2_with fail
    refine (uresolve_ok a1 a2 n1 n2 k1 k2 p _ (HP.out.stay HB3.out) HNum.out HN.out HQ.out _ HR.out).mono ?_
    rintro e w4 ⟨x, rfl, hb, hx⟩
    have HB4 : Hid (Below w.heap.size w w4) := hb_step HB3 hb
    have HV4 := Lib.hid (HV3.out.stay (hb.mono (Nat.le_refl _)))
    have HXC4 := Lib.hid ((hb.block _ (lt_of_heap HXC3.out)).trans HXC3.out)
    have HX4 := Lib.hid ((hb.block _ (lt_of_heap HX3.out)).trans HX3.out)
    clear c0 c1 d0 HX3 HXC3 HV3 HB3
    have c0 : w4.cell? ⟨w.heap.size, 0, none⟩ = some (.slice a1 n1 k1) := cell_of_heap HX4.out 0
    have c1 : w4.cell? ⟨w.heap.size, 1, none⟩ = some (.slice a2 n2 k2) := cell_of_heap HX4.out 1
    have d0 : w4.cell? ⟨w2.heap.size, 0, none⟩ = some (.slice va 0 vc) := cell_of_heap HXC4.out 0
    clear hb hx
    go_wp2_with fail
    go_ret
    exact ⟨rfl, HB4.out⟩
  · have hm33 : p.all.length ≤ 33 := (PT.all_ok HQ.out HN.out).1
    obtain ⟨m, hm⟩ : ∃ m, p.all.length = m := ⟨_, rfl⟩
    rw [hm] at hm33
    have HM := Lib.hid hm
    clear hm
    go_enter Tryz.func3, Tryz.ntmps3
    go_wp2_with fail
    refine (shown_r mb mn _ (HT.out.below HBA.out)).mono ?_
    rintro e w1 ⟨rfl, hb⟩
    have HB1 : Hid (Below w.heap.size w w1) := hb_step HBA hb
    have HX1 := Lib.hid ((hb.block _ (lt_of_heap HXA.out)).trans HXA.out)
    have c0 : w1.cell? ⟨w.heap.size, 0, none⟩ = some (.slice a1 n1 k1) := cell_of_heap HX1.out 0
    have c1 : w1.cell? ⟨w.heap.size, 1, none⟩ = some (.slice a2 n2 k2) := cell_of_heap HX1.out 1
    clear hb
    go_wp2_with fail
    refine (compile_r a1 a2 n1 n2 k1 k2 p mb mn _ (HT.out.below HB1.out).tree (HT.out.below HB1.out).smp (HP.out.stay HB1.out) (by have := HN.out; omega) _ HR.out).mono ?_
    rintro e w2 ⟨v, rfl, hb, hv⟩
    have HB2 : Hid (Below w.heap.size w w2) := hb_step HB1 hb
    rw [if_pos rfl] at hv
    obtain ⟨va, vc, rfl⟩ := hv.shape
    rw [p.code_len9, HM.out] at hv ⊢
    have HBX0 : Hid (Below w2.heap.size w2 (w2.alloc (.cells #[.slice va m vc] 29))) := (Below.refl _ _).alloc (Nat.le_refl _) _
    have HV := Lib.hid (hv.stay HBX0.out)
    have HBX : Hid (Below w.heap.size w (w2.alloc (.cells #[.slice va m vc] 29))) := hb_alloc HB2 _
    have HXC : Hid ((w2.alloc (.cells #[.slice va m vc] 29)).heap[w2.heap.size]? = some (.cells #[.slice va m vc] 29 (0, 0))) := heap_alloc_new _ _
    have HX2 := Lib.hid ((Below.heap_alloc w2 (.cells #[.slice va m vc] 29) w.heap.size (Nat.lt_of_lt_of_le (lt_of_heap HX1.out) hb.size)).trans ((hb.block _ (lt_of_heap HX1.out)).trans HX1.out))
    clear c0 c1
    have c0 : (w2.alloc (.cells #[.slice va m vc] 29)).cell? ⟨w.heap.size, 0, none⟩ = some (.slice a1 n1 k1) := cell_of_heap HX2.out 0
    have c1 : (w2.alloc (.cells #[.slice va m vc] 29)).cell? ⟨w.heap.size, 1, none⟩ = some (.slice a2 n2 k2) := cell_of_heap HX2.out 1
    clear hb hv
    go_wp2_with fail
    refine (right_r a1 a2 n1 n2 k1 k2 p _ (HT.out.below HBX.out).tree (HP.out.stay HBX.out) _ HQ.out).mono ?_
    rintro e w3 ⟨rfl, hb⟩
    have HB3 : Hid (Below w.heap.size w w3) := hb_step HBX hb
    have HV3 := Lib.hid (HV.out.stay (hb.mono (Nat.le_refl _)))
    have HXC3 := Lib.hid ((hb.block _ (lt_of_heap HXC.out)).trans HXC.out)
    have HX3 := Lib.hid ((hb.block _ (lt_of_heap HX2.out)).trans HX2.out)
    clear hb c0 c1 HX2 HXC HBX HBX0 HV HX1 HXA HBA HB2 HB1
    have c0 : w3.cell? ⟨w.heap.size, 0, none⟩ = some (.slice a1 n1 k1) := cell_of_heap HX3.out 0
    have c1 : w3.cell? ⟨w.heap.size, 1, none⟩ = some (.slice a2 n2 k2) := cell_of_heap HX3.out 1
    have d0 : w3.cell? ⟨w2.heap.size, 0, none⟩ = some (.slice va m vc) := cell_of_heap HXC3.out 0
    go_wp2_with fail
    refine (uresolve_ok a1 a2 n1 n2 k1 k2 p _ (HP.out.stay HB3.out) HNum.out HN.out HQ.out _ HR.out).mono ?_
    rintro e w4 ⟨x, rfl, hb, hx⟩
    have HB4 : Hid (Below w.heap.size w w4) := hb_step HB3 hb
    have HV4 := Lib.hid (HV3.out.stay (hb.mono (Nat.le_refl _)))
    have HXC4 := Lib.hid ((hb.block _ (lt_of_heap HXC3.out)).trans HXC3.out)
    have HX4 := Lib.hid ((hb.block _ (lt_of_heap HX3.out)).trans HX3.out)
    clear c0 c1 d0 HX3 HXC3 HV3 HB3
    have c0 : w4.cell? ⟨w.heap.size, 0, none⟩ = some (.slice a1 n1 k1) := cell_of_heap HX4.out 0
    have c1 : w4.cell? ⟨w.heap.size, 1, none⟩ = some (.slice a2 n2 k2) := cell_of_heap HX4.out 1
    have d0 : w4.cell? ⟨w2.heap.size, 0, none⟩ = some (.slice va m vc) := cell_of_heap HXC4.out 0
    have HXR := Lib.hid (hx rfl)
    obtain ⟨sa, sc, rfl, -, -⟩ := (hx rfl).len9
    clear hb hx
    go_wp2_with fail
    refine (rcomp_r a1 a2 n1 n2 k1 k2 p _ _ (HP.out.stay HB4.out) HXR.out (by have := HN.out; omega) HR.out).mono ?_
    rintro e w5 ⟨v, rfl, hb, hv⟩
    obtain ⟨ra, rc, rfl⟩ := hv.shape
    rw [p.code_len9, HM.out] at hv ⊢
    have HB5 : Hid (Below w.heap.size w w5) := hb_step HB4 hb
    have HV5 := Lib.hid (HV4.out.stay (hb.mono (Nat.le_refl _)))
    have HL5 := Lib.hid hv
    have HXC5 := Lib.hid ((hb.block _ (lt_of_heap HXC4.out)).trans HXC4.out)
    clear hb hv c0 c1 d0 HX4 HXC4 HV4 HB4 HXR
    have d0 : w5.cell? ⟨w2.heap.size, 0, none⟩ = some (.slice va m vc) := cell_of_heap HXC5.out 0
    go_wp2_with fail
    go_loopw [10] (fun i wr => ∃ k : Nat, i = .int .i64 k ∧ k ≤ m ∧ Hid (Below w5.heap.size w5 wr)) (fun i _ => m - (intOf i).toNat)
    case atStart => exact ⟨0, rfl, Nat.zero_le _, Below.refl _ _⟩
    case round =>
      clear d0
      obtain ⟨k, rfl, hk, HBk⟩ := hrel
      have HXCk := Lib.hid ((HBk.out.block _ (lt_of_heap HXC5.out)).trans HXC5.out)
      have d0 : wr.cell? ⟨w2.heap.size, 0, none⟩ = some (.slice va m vc) := cell_of_heap HXCk.out 0
      by_cases hlt : k < m
      · obtain ⟨wo, rfl⟩ : ∃ z, z = wr := ⟨_, rfl⟩
        obtain ⟨-, cb, co, la, lc, rfl, ⟨q0, q1, q2, q3, q4⟩, hi⟩ := (HV5.out.stay HBk.out).at9 k hlt
        obtain ⟨-, rb, ro, ya, yc, rfl, ⟨s0, s1, s2, s3, s4⟩, hy⟩ := (HL5.out.stay HBk.out).at9 k hlt
        generalize p.code.getD k default = f at q0 q1 q2 q3 q4 hi s0 s1 s2 s3 s4 hy
        obtain ⟨nm, pm, vn, an, L⟩ := f
        dsimp only at q0 q1 q2 q3 q4 hi s0 s1 s2 s3 s4 hy
        obtain ⟨-, lb, lo, hla, hlc, hlm, hcl⟩ := hi.row9t
        obtain ⟨-, yb, yo, hya, hyc, hym, hyl⟩ := hy.row9t
        have hsm := hi.small
        have HLA := Lib.hid hla
        have HYA := Lib.hid hya
        have HCL := Lib.hid hcl
        have HYL := Lib.hid hyl
        obtain ⟨nl, hnl⟩ : ∃ x, L.length = x := ⟨_, rfl⟩
        rw [hnl] at q4 s4 HLA HYA HCL HYL hlc hyc hsm
        clear hla hya hcl hyl hi hy hnl
        have hkI : (k : Int) < m := by omega
        have HBX : Hid (Below wo.heap.size wo (wo.alloc (.cells #[.string nm, .int .i64 pm, .int .i64 vn, .int .i64 an, .slice la nl lc] 41))) := (Below.refl _ _).alloc (Nat.le_refl _) _
        have HXX : Hid ((wo.alloc (.cells #[.string nm, .int .i64 pm, .int .i64 vn, .int .i64 an, .slice la nl lc] 41)).heap[wo.heap.size]? = some (.cells #[.string nm, .int .i64 pm, .int .i64 vn, .int .i64 an, .slice la nl lc] 41 (0, 0))) := heap_alloc_new _ _
        have hz : rb < wo.heap.size := lt_of_cell s0
        have HS4 := Lib.hid s4
        go_upto_region 16 with fail
        generalize wo.alloc (.cells #[.string nm, .int .i64 pm, .int .i64 vn, .int .i64 an, .slice la nl lc] 41) = W at HBX HXX ⊢
        replace s0 := (HBX.out.cell (p := ⟨rb, ro + k * 5, none⟩) hz).trans s0
        replace s1 := (HBX.out.cell (p := ⟨rb, ro + k * 5 + 1, none⟩) hz).trans s1
        replace s2 := (HBX.out.cell (p := ⟨rb, ro + k * 5 + 2, none⟩) hz).trans s2
        replace s3 := (HBX.out.cell (p := ⟨rb, ro + k * 5 + 3, none⟩) hz).trans s3
        replace s4 := (HBX.out.cell (p := ⟨rb, ro + k * 5 + 4, none⟩) hz).trans s4
        clear q0 q1 q2 q3 q4 d0 hz
        have x0 := cell_of_heap HXX.out 0
        have x1 := cell_of_heap HXX.out 1
        have x2 := cell_of_heap HXX.out 2
        have x3 := cell_of_heap HXX.out 3
        have x4 := cell_of_heap HXX.out 4
        simp only [List.getElem?_toArray, List.getElem?_cons_succ, List.getElem?_cons_zero] at x0 x1 x2 x3 x4
        go_quiet (fail)
        have HBW : Hid (Below W.heap.size W (W.drewN nq)) := below_drewN (Below.refl _ _) _
        have HXW : Hid ((W.drewN nq).heap[wo.heap.size]? = some (.cells #[.string nm, .int .i64 pm, .int .i64 vn, .int .i64 an, .slice la nl lc] 41 (0, 0))) := HXX.out
        have HBY : Hid (Below wo.heap.size wo (W.drewN nq)) := below_drewN HBX.out _
        clear x0 x1 x2 x3 x4 s0 s1 s2 s3 s4
        generalize W.drewN nq = W2 at HBW HXW HBY ⊢
        go_wp2_with fail
        go_loopw [12] (fun i wr => ∃ j : Nat, i = .int .i64 j ∧ j ≤ nl ∧ Hid (Below W2.heap.size W2 wr)) (fun i _ => nl - (intOf i).toNat)
        case atStart => exact ⟨0, rfl, Nat.zero_le _, Below.refl _ _⟩
        case round =>
          obtain ⟨j, rfl, hj, HBj⟩ := hrel
          have HXj := Lib.hid ((HBj.out.block _ (lt_of_heap HXW.out)).trans HXW.out)
          have x4 := cell_of_heap HXj.out 4
          simp only [List.getElem?_toArray, List.getElem?_cons_succ, List.getElem?_cons_zero] at x4
          have HBo : Hid (Below wo.heap.size wo wr) := HBY.out.trans (HBj.out.mono HBY.out.size)
          by_cases hjt : j < nl
          · obtain rfl := HLA.out (by omega)
            obtain rfl := HYA.out (by omega)
            have s4 := (HBo.out.cell (p := ⟨rb, ro + k * 5 + 4, none⟩) (lt_of_cell HS4.out)).trans HS4.out
            obtain ⟨z0, z1, z2⟩ := HCL.out j hjt
            obtain ⟨y0, y1, y2⟩ := HYL.out j hjt
            have hz : lb < wo.heap.size := lt_of_cell z0
            have hy : yb < wo.heap.size := lt_of_cell y0
            replace z0 := (HBo.out.cell (p := ⟨lb, lo + j * 3, none⟩) hz).trans z0
            replace z1 := (HBo.out.cell (p := ⟨lb, lo + j * 3 + 1, none⟩) hz).trans z1
            replace z2 := (HBo.out.cell (p := ⟨lb, lo + j * 3 + 2, none⟩) hz).trans z2
            replace y0 := (HBo.out.cell (p := ⟨yb, yo + j * 3, none⟩) hy).trans y0
            replace y1 := (HBo.out.cell (p := ⟨yb, yo + j * 3 + 1, none⟩) hy).trans y1
            replace y2 := (HBo.out.cell (p := ⟨yb, yo + j * 3 + 2, none⟩) hy).trans y2
            generalize L.getD j default = x at z0 z1 z2 y0 y1 y2
            obtain ⟨xo, xa, xn⟩ := x
            dsimp only at z0 z1 z2 y0 y1 y2
            have hjI : (j : Int) < nl := by omega
            clear hz hy
            go_wp2_with fail
            go_quiet (fail)
            go_wp2_with fail
            go_roundw
            case rel => exact ⟨j + 1, by go_num, by omega, below_drewN HBj.out _⟩
            case measure => simp [intOf]; omega
          · obtain rfl : j = nl := by omega
            go_wp2_with fail
            go_roundw
            case rel => exact ⟨k + 1, by go_num, by omega, HBk.out.trans (HBo.out.mono HBk.out.size)⟩
            case measure => simp [intOf]; omega
      · obtain rfl : k = m := by omega
        go_wp2_with fail
        go_ret
        exact ⟨rfl, HB5.out.trans (HBk.out.mono HB5.out.size)⟩
end Go.Proofs.YthjjcmmonjajhaaGreatDoor
namespace Go.Proofs.YthjjcmmonjajhaaGreatDoor
open Go.RowKit Go.Sort
set_option linter.unusedVariables false

theorem tells_walk {H : Type} {d0 : DataW H} (a1 : Option Addr) (n1 k1 : Nat) (a2 : Option Addr) (n2 k2 : Nat) (p : PT) (w : World)
    (o0 : PR w (.slice a1 n1 k1) (.slice a2 n2 k2) p ∧ k1 ≤ 2199023255488 ∧ k2 ≤ 1353245080300)
    (b0 : p.nodes.length ≤ Rows.uptoBulk d0) (hnum : p.numP) (hbk : Rows.uptoSmall H ([d0] ++ []) = true) (ht : ∃ mb mn, TabAll w mb mn) :
    Calls Tryz.prog 3 #[.agg #[.slice a1 n1 k1, .slice a2 n2 k2]] w fun e w' => e = .returned (.bool true) ∧ Below w.heap.size w w' := by
  have hb : Rows.uptoBulk d0 + 0 ≤ 1048576 := of_decide_eq_true hbk
  obtain ⟨mb, mn, h⟩ := ht
  exact tells_core a1 a2 n1 n2 k1 k2 p mb mn w h o0.1 hnum (by omega)
end Go.Proofs.YthjjcmmonjajhaaGreatDoor
