/- What must be in any case: shown. -/
import Derived.Test.YtplckmpamekloaaDoorTreeMem
namespace Go.Proofs.YtplckmpamekloaaDoor
open Go.RowKit Go.Sort
set_option linter.unusedVariables false

set_option maxHeartbeats 8000000 in
set_option maxRecDepth 1000000 in
theorem shown_r (w : World) (ht : Tab w) : Calls Tryd.prog 11 #[] w fun e w' => e = .returned (.bool true) ∧ Below w.heap.size w w' := by
  have HT0 := Lib.hid ht
  clear ht
  go_enter Tryd.func11, Tryd.ntmps11
  go_upto_region 3 with (go_at_call 22; refine (one_r _ _).mono ?_; rintro e w' ⟨rfl, rfl⟩)
  change Code.wp _ _ _ _ (chain w (shownObjs w.heap.size))
  have hb0 := chain_below (shownObjs w.heap.size) w
  generalize hW : chain w (shownObjs w.heap.size) = W at hb0
  obtain ⟨bf, bm, bq, k0, k1, k2, k3, hP, hQ⟩ := shown_mem w W hW
  unfold sl1 at k0 k1 k3 hP hQ
  have HP := Lib.hid hP
  have HQ := Lib.hid hQ
  have HT : Hid (Tab W) := HT0.out.below hb0
  have HB0 := Lib.hid hb0
  have HB := hb_start W
  clear hW hP hQ hb0
  obtain ⟨b1, hb1⟩ : ∃ b1, w.heap.size + 12 = b1 := ⟨_, rfl⟩
  obtain ⟨b2, hb2⟩ : ∃ b2, w.heap.size + 16 = b2 := ⟨_, rfl⟩
  have e1 : w.heap.size + 1 + 1 + 1 + 1 + 1 + 1 + 1 + 1 + 1 + 1 + 1 + 1 = b1 := hb1
  have e2 : w.heap.size + 1 + 1 + 1 + 1 + 1 + 1 + 1 + 1 + 1 + 1 + 1 + 1 + 1 + 1 + 1 + 1 = b2 := hb2
  rw [e2, e1]
  rw [hb1] at k0 k1
  rw [hb2] at k2 k3
  clear hb1 hb2 e1 e2
  go_wp2_with (first
    | (go_at_call 12; (with_reducible refine (right_r _ _ _ _ _ _ p0 _ (HT.out.below HB.out) (HP.out.stay HB.out) 0 p0_right).mono ?_); rintro e w' ⟨rfl, hb⟩; have k0 := (hb.cell (p := ⟨b1, 0, none⟩) (lt_of_cell k0)).trans k0; have k1 := (hb.cell (p := ⟨b1, 1, none⟩) (lt_of_cell k1)).trans k1; have k2 := (hb.cell (p := ⟨b2, 0, none⟩) (lt_of_cell k2)).trans k2; have k3 := (hb.cell (p := ⟨b2, 1, none⟩) (lt_of_cell k3)).trans k3; have HB2 : Hid (Below W.heap.size W w') := hb_step HB hb; clear HB; have HB := HB2; clear HB2; clear hb)
    | (go_at_call 12; (with_reducible refine (right_r _ _ _ _ _ _ q0 _ (HT.out.below HB.out) (HQ.out.stay HB.out) 1 q0_right).mono ?_); rintro e w' ⟨rfl, hb⟩; have k0 := (hb.cell (p := ⟨b1, 0, none⟩) (lt_of_cell k0)).trans k0; have k1 := (hb.cell (p := ⟨b1, 1, none⟩) (lt_of_cell k1)).trans k1; have k2 := (hb.cell (p := ⟨b2, 0, none⟩) (lt_of_cell k2)).trans k2; have k3 := (hb.cell (p := ⟨b2, 1, none⟩) (lt_of_cell k3)).trans k3; have HB2 : Hid (Below W.heap.size W w') := hb_step HB hb; clear HB; have HB := HB2; clear HB2; clear hb)
    | (go_at_call 12; (with_reducible refine (right_r _ _ _ _ _ _ ⟨[], []⟩ _ (HT.out.below HB.out) (PR.nil _) 0 nil_right).mono ?_); rintro e w' ⟨rfl, hb⟩; have k0 := (hb.cell (p := ⟨b1, 0, none⟩) (lt_of_cell k0)).trans k0; have k1 := (hb.cell (p := ⟨b1, 1, none⟩) (lt_of_cell k1)).trans k1; have k2 := (hb.cell (p := ⟨b2, 0, none⟩) (lt_of_cell k2)).trans k2; have k3 := (hb.cell (p := ⟨b2, 1, none⟩) (lt_of_cell k3)).trans k3; have HB2 : Hid (Below W.heap.size W w') := hb_step HB hb; clear HB; have HB := HB2; clear HB2; clear hb)
    | (go_at_call 14; (with_reducible refine (depth_r _ _ _ _ _ _ p0 _ (HT.out.below HB.out) (HP.out.stay HB.out) 4 p0_depth).mono ?_); rintro e w' ⟨rfl, hb⟩; have k0 := (hb.cell (p := ⟨b1, 0, none⟩) (lt_of_cell k0)).trans k0; have k1 := (hb.cell (p := ⟨b1, 1, none⟩) (lt_of_cell k1)).trans k1; have k2 := (hb.cell (p := ⟨b2, 0, none⟩) (lt_of_cell k2)).trans k2; have k3 := (hb.cell (p := ⟨b2, 1, none⟩) (lt_of_cell k3)).trans k3; have HB2 : Hid (Below W.heap.size W w') := hb_step HB hb; clear HB; have HB := HB2; clear HB2; clear hb)
    | (go_at_call 16; (with_reducible refine (size_r _ _ _ _ _ _ p0 _ (HT.out.below HB.out) (HP.out.stay HB.out) 7 p0_size).mono ?_); rintro e w' ⟨rfl, hb⟩; have k0 := (hb.cell (p := ⟨b1, 0, none⟩) (lt_of_cell k0)).trans k0; have k1 := (hb.cell (p := ⟨b1, 1, none⟩) (lt_of_cell k1)).trans k1; have k2 := (hb.cell (p := ⟨b2, 0, none⟩) (lt_of_cell k2)).trans k2; have k3 := (hb.cell (p := ⟨b2, 1, none⟩) (lt_of_cell k3)).trans k3; have HB2 : Hid (Below W.heap.size W w') := hb_step HB hb; clear HB; have HB := HB2; clear HB2; clear hb)
    | (go_at_call 18; (with_reducible refine (equal_r _ _ _ _ _ _ _ _ _ _ _ _ p0 p0 _ (HP.out.stay HB.out) (HP.out.stay HB.out) true p0_p0).mono ?_); rintro e w' ⟨rfl, hb⟩; have k0 := (hb.cell (p := ⟨b1, 0, none⟩) (lt_of_cell k0)).trans k0; have k1 := (hb.cell (p := ⟨b1, 1, none⟩) (lt_of_cell k1)).trans k1; have k2 := (hb.cell (p := ⟨b2, 0, none⟩) (lt_of_cell k2)).trans k2; have k3 := (hb.cell (p := ⟨b2, 1, none⟩) (lt_of_cell k3)).trans k3; have HB2 : Hid (Below W.heap.size W w') := hb_step HB hb; clear HB; have HB := HB2; clear HB2; clear hb)
    | (go_at_call 18; (with_reducible refine (equal_r _ _ _ _ _ _ _ _ _ _ _ _ p0 q0 _ (HP.out.stay HB.out) (HQ.out.stay HB.out) false p0_q0).mono ?_); rintro e w' ⟨rfl, hb⟩; have k0 := (hb.cell (p := ⟨b1, 0, none⟩) (lt_of_cell k0)).trans k0; have k1 := (hb.cell (p := ⟨b1, 1, none⟩) (lt_of_cell k1)).trans k1; have k2 := (hb.cell (p := ⟨b2, 0, none⟩) (lt_of_cell k2)).trans k2; have k3 := (hb.cell (p := ⟨b2, 1, none⟩) (lt_of_cell k3)).trans k3; have HB2 : Hid (Below W.heap.size W w') := hb_step HB hb; clear HB; have HB := HB2; clear HB2; clear hb)
    | (go_at_call 20; (with_reducible refine (name_r ⟨#[97, 95, 49]⟩ true name1 _).mono ?_); rintro e w' ⟨rfl, hb⟩; have k0 := (hb.cell (p := ⟨b1, 0, none⟩) (lt_of_cell k0)).trans k0; have k1 := (hb.cell (p := ⟨b1, 1, none⟩) (lt_of_cell k1)).trans k1; have k2 := (hb.cell (p := ⟨b2, 0, none⟩) (lt_of_cell k2)).trans k2; have k3 := (hb.cell (p := ⟨b2, 1, none⟩) (lt_of_cell k3)).trans k3; have HB2 : Hid (Below W.heap.size W w') := hb_step HB hb; clear HB; have HB := HB2; clear HB2; clear hb)
    | (go_at_call 20; (with_reducible refine (name_r ⟨#[99, 108, 111, 99, 107]⟩ false name2 _).mono ?_); rintro e w' ⟨rfl, hb⟩; have k0 := (hb.cell (p := ⟨b1, 0, none⟩) (lt_of_cell k0)).trans k0; have k1 := (hb.cell (p := ⟨b1, 1, none⟩) (lt_of_cell k1)).trans k1; have k2 := (hb.cell (p := ⟨b2, 0, none⟩) (lt_of_cell k2)).trans k2; have k3 := (hb.cell (p := ⟨b2, 1, none⟩) (lt_of_cell k3)).trans k3; have HB2 : Hid (Below W.heap.size W w') := hb_step HB hb; clear HB; have HB := HB2; clear HB2; clear hb)
    | (go_at_call 20; (with_reducible refine (name_r ⟨#[95, 97]⟩ false name3 _).mono ?_); rintro e w' ⟨rfl, hb⟩; have k0 := (hb.cell (p := ⟨b1, 0, none⟩) (lt_of_cell k0)).trans k0; have k1 := (hb.cell (p := ⟨b1, 1, none⟩) (lt_of_cell k1)).trans k1; have k2 := (hb.cell (p := ⟨b2, 0, none⟩) (lt_of_cell k2)).trans k2; have k3 := (hb.cell (p := ⟨b2, 1, none⟩) (lt_of_cell k3)).trans k3; have HB2 : Hid (Below W.heap.size W w') := hb_step HB hb; clear HB; have HB := HB2; clear HB2; clear hb)
    | (go_at_call 20; (with_reducible refine (name_r ⟨#[]⟩ false name4 _).mono ?_); rintro e w' ⟨rfl, hb⟩; have k0 := (hb.cell (p := ⟨b1, 0, none⟩) (lt_of_cell k0)).trans k0; have k1 := (hb.cell (p := ⟨b1, 1, none⟩) (lt_of_cell k1)).trans k1; have k2 := (hb.cell (p := ⟨b2, 0, none⟩) (lt_of_cell k2)).trans k2; have k3 := (hb.cell (p := ⟨b2, 1, none⟩) (lt_of_cell k3)).trans k3; have HB2 : Hid (Below W.heap.size W w') := hb_step HB hb; clear HB; have HB := HB2; clear HB2; clear hb))
  go_ret
  exact ⟨rfl, HB0.out.trans (HB.out.mono HB0.out.size)⟩
end Go.Proofs.YtplckmpamekloaaDoor
