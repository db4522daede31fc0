/- The walk of CodeTells. -/
import Derived.Test.YtbipfkbjdbdghaaDoorCodeLaws
import Derived.Deep.RegionHeld3
namespace Go.Proofs.YtbipfkbjdbdghaaDoor
open Go.RowKit Go.Sort
set_option linter.unusedVariables false
set_option linter.unusedSimpArgs false

set_option maxHeartbeats 8000000 in
set_option maxRecDepth 1000000 in
theorem tells_core (op : Int) (n : Nat) (hn : ix op = n) (kn : Bool) (hk : decide (1 ≤ op ∧ op ≤ 25) = kn) (hcase : (1 ≤ op ∧ op ≤ 25 ∧ kn = true) ∨ (op < 1 ∧ kn = false) ∨ (1 ≤ op ∧ 25 < op ∧ kn = false)) (w : World) (ht : Tab w) :
    Calls Tryd.prog 3 #[.int .i64 op] w fun e w' => e = .returned (.bool true) ∧ Below w.heap.size w w' := by
  have HT0 := Lib.hid ht
  clear ht
  have HB0 := hb_start w
  have h26 : n < 26 := by rw [← hn]; exact ix_lt op
  obtain ⟨m0, m1⟩ := mo_range n
  obtain ⟨t, hT⟩ : ∃ t, tk n = t := ⟨_, rfl⟩
  obtain ⟨l, hL⟩ : ∃ l, lv n = l := ⟨_, rfl⟩
  obtain ⟨c, hC⟩ : ∃ c, 1 + mo n = c := ⟨_, rfl⟩
  obtain ⟨d, hD⟩ : ∃ d, (c + 1) / 2 = d := ⟨_, rfl⟩
  obtain ⟨s, hS⟩ : ∃ s, nm n = s := ⟨_, rfl⟩
  obtain ⟨t1, h1⟩ : ∃ t1, decide (hs n % 2 = 1) = t1 := ⟨_, rfl⟩
  obtain ⟨t2, h2⟩ : ∃ t2, decide (hs n / 2 = 1) = t2 := ⟨_, rfl⟩
  have q1 : 0 ≤ c := by omega
  have q2 : c ≤ 20 := by omega
  have HK := Lib.hid hn
  have HKN := Lib.hid hk
  have HCC := Lib.hid hC
  have HD := Lib.hid hD
  have HTK := Lib.hid hT
  have HLV := Lib.hid hL
  have HNM := Lib.hid hS
  have HT1 := Lib.hid h1
  have HT2 := Lib.hid h2
  have hdd : Int.tdiv (c + 1) 2 = d := by rw [Int.tdiv_eq_ediv_of_nonneg (by omega)]; exact hD
  clear hk hn hC hT hL hS h1 h2 m0 m1 h26
  rcases hcase with ⟨hc1, hc2, rfl⟩ | ⟨hc1, rfl⟩ | ⟨hc1, hc2, rfl⟩
  rotate_left 2
  have hc3 : decide (op ≤ 25) = false := decide_eq_false (by omega)
  rotate_left 1
  all_goals
    go_enter Tryd.func3, Tryd.ntmps3
    go_upto_region 4 with (first | (go_at_call 7; refine (shown_r _ HT0.out).mono ?_; rintro e w1 ⟨rfl, hb⟩; have HB1 := hb_step HB0 hb; clear hb) | (go_at_call 8; refine (refof_v _ _ HK.out _ _ _ _ _ _ _ HNM.out HT1.out HT2.out HTK.out HLV.out HCC.out).mono ?_; rintro e w2 ⟨rfl, hb⟩; have HB2 := hb_step HB1 hb; clear hb))
    obtain ⟨W1, hW1⟩ : ∃ W1, W1 = w2.alloc (Obj.cells #[.string s, .int .i64 t, .int .i64 l, .int .i64 c, .bool t1, .bool t2] 24) := ⟨_, rfl⟩
    obtain ⟨b, hb⟩ : ∃ b, b = w2.heap.size := ⟨_, rfl⟩
    rw [← hW1, ← hb]
    have hbl : b < W1.heap.size := by rw [hW1, hb]; show _ < (w2.heap.push _).size; rw [Array.size_push]; omega
    have c0 : W1.cell? ⟨b, 0, none⟩ = some (.string s) := by rw [hW1, hb]; simp
    have c1 : W1.cell? ⟨b, 1, none⟩ = some (.int .i64 t) := by rw [hW1, hb]; simp
    have c2 : W1.cell? ⟨b, 2, none⟩ = some (.int .i64 l) := by rw [hW1, hb]; simp
    have c3 : W1.cell? ⟨b, 3, none⟩ = some (.int .i64 c) := by rw [hW1, hb]; simp
    have HW : Hid (Below w.heap.size w W1) := by rw [hW1]; exact hb_alloc HB2 _
    have HT : Hid (Tab W1) := Tab.at HT0 HW
    have HC := Lib.hid (And.intro c0 (And.intro c1 (And.intro c2 (And.intro c3 hbl))))
    have HB := hb_start W1
    clear hW1 hb HB2 HB1 HB0
    clear hdd
    clear c0 c1 c2 c3
    have c0 := HC.out.1
    have c1 := HC.out.2.1
    have c2 := HC.out.2.2.1
    have c3 := HC.out.2.2.2.1
    have hdd : Int.tdiv (c + 1) 2 = d := by rw [Int.tdiv_eq_ediv_of_nonneg (by omega)]; exact HD.out
    go_region_held3 (fun wx => wx.cell? ⟨b, 0, none⟩ = some (.string s) ∧ wx.cell? ⟨b, 1, none⟩ = some (.int .i64 t) ∧ wx.cell? ⟨b, 2, none⟩ = some (.int .i64 l) ∧ wx.cell? ⟨b, 3, none⟩ = some (.int .i64 c)) (exact ⟨(HB.out.cell (p := ⟨b, 0, none⟩) HC.out.2.2.2.2).trans HC.out.1, (HB.out.cell (p := ⟨b, 1, none⟩) HC.out.2.2.2.2).trans HC.out.2.1, (HB.out.cell (p := ⟨b, 2, none⟩) HC.out.2.2.2.2).trans HC.out.2.2.1, (HB.out.cell (p := ⟨b, 3, none⟩) HC.out.2.2.2.2).trans HC.out.2.2.2.1⟩)
      (first | (go_at_call 9; refine (known_r _ _ HKN.out _).mono ?_; rintro e w' ⟨rfl, rfl⟩) | (go_at_call 10; refine (name_s _ _ HK.out _ HNM.out _ (Tab.at HT (by repeat (first | exact HB | refine hb_drew ?_ | refine hb_alloc ?_ _)))).mono ?_; rintro e w' ⟨rfl, hb⟩; have HB2 : Hid (Below W1.heap.size W1 w') := hb_step (by repeat (first | exact HB | refine hb_drew ?_ | refine hb_alloc ?_ _)) hb; clear HB; have HB := HB2; clear HB2; clear hb) | (go_at_call 11; refine (takes_v _ _ HK.out _ (Tab.at HT (by repeat (first | exact HB | refine hb_drew ?_ | refine hb_alloc ?_ _))) _ HTK.out).mono ?_; rintro e w' ⟨rfl, hb⟩; have HB2 : Hid (Below W1.heap.size W1 w') := hb_step (by repeat (first | exact HB | refine hb_drew ?_ | refine hb_alloc ?_ _)) hb; clear HB; have HB := HB2; clear HB2; clear hb) | (go_at_call 12; refine (leaves_v _ _ HK.out _ (Tab.at HT (by repeat (first | exact HB | refine hb_drew ?_ | refine hb_alloc ?_ _))) _ HLV.out).mono ?_; rintro e w' ⟨rfl, hb⟩; have HB2 : Hid (Below W1.heap.size W1 w') := hb_step (by repeat (first | exact HB | refine hb_drew ?_ | refine hb_alloc ?_ _)) hb; clear HB; have HB := HB2; clear HB2; clear hb) | (go_at_call 13; refine (cost_v _ _ HK.out _ (Tab.at HT (by repeat (first | exact HB | refine hb_drew ?_ | refine hb_alloc ?_ _))) _ HCC.out).mono ?_; rintro e w' ⟨rfl, hb⟩; have HB2 : Hid (Below W1.heap.size W1 w') := hb_step (by repeat (first | exact HB | refine hb_drew ?_ | refine hb_alloc ?_ _)) hb; clear HB; have HB := HB2; clear HB2; clear hb) | (go_at_call 14; refine (fast_v _ _ HK.out _ (Tab.at HT (by repeat (first | exact HB | refine hb_drew ?_ | refine hb_alloc ?_ _))) _ _ HCC.out HD.out).mono ?_; rintro e w' ⟨rfl, hb⟩; have HB2 : Hid (Below W1.heap.size W1 w') := hb_step (by repeat (first | exact HB | refine hb_drew ?_ | refine hb_alloc ?_ _)) hb; clear HB; have HB := HB2; clear HB2; clear hb))
    all_goals go_wp2
    all_goals go_ret
    all_goals
      have hres : (d == IntKind.i64.wrap ((IntKind.i64.wrap (c + 1)).tdiv 2)) = true := by
        have e0 := HD.out
        have e1 : IntKind.i64.wrap (c + 1) = c + 1 := by rw [IntKind.wrap_i64]; omega
        have e2 : IntKind.i64.wrap d = d := by rw [IntKind.wrap_i64]; omega
        rw [e1, Int.tdiv_eq_ediv_of_nonneg (by omega), e0, e2]; simp
      exact ⟨congrArg (fun x => Ending.returned (Value.bool x)) hres, Below.trans HW.out (HB.out.mono HW.out.size)⟩
theorem tells_walk (op : Int) (w : World) (ht : Tab w) :
    Calls Tryd.prog 3 #[.int .i64 op] w fun e w' => e = .returned (.bool true) ∧ Below w.heap.size w w' := by
  refine tells_core op _ rfl _ rfl ?_ w ht
  by_cases h1 : 1 ≤ op
  · by_cases h2 : op ≤ 25
    · exact .inl ⟨h1, h2, decide_eq_true ⟨h1, h2⟩⟩
    · exact .inr (.inr ⟨h1, by omega, decide_eq_false (fun h => h2 h.2)⟩)
  · exact .inr (.inl ⟨by omega, decide_eq_false (fun h => h1 h.1)⟩)
end Go.Proofs.YtbipfkbjdbdghaaDoor
