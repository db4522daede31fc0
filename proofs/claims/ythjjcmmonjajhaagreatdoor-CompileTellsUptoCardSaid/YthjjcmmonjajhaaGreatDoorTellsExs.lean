/- The document's exprs. -/
import Derived.Test.YthjjcmmonjajhaaGreatDoorTellsEx1
import Derived.Test.YthjjcmmonjajhaaGreatDoorTellsEx2
import Derived.Test.YthjjcmmonjajhaaGreatDoorTellsAll
import Derived.Test.YthjjcmmonjajhaaGreatDoorBulks
namespace Go.Proofs.YthjjcmmonjajhaaGreatDoor
open Go.RowKit Go.Sort
set_option linter.unusedVariables false

theorem ESl.shape1 {w : World} {v : Value} {l : List ET} (h : ESl w v l) : ∃ a cap, v = .slice a l.length cap ∧ l.length ≤ cap ∧ cap ≤ 9223372036854775807 := by
  cases h with | mk a b off cap l f ha hc hm _ _ => exact ⟨a, cap, rfl, hc, hm⟩
theorem SSl.shape1 {w : World} {v : Value} {l : List ST} (h : SSl w v l) : ∃ a cap, v = .slice a l.length cap ∧ l.length ≤ cap ∧ cap ≤ 9223372036854775807 := by
  cases h with | mk a b off cap l f g h ha hc hm _ _ _ _ => exact ⟨a, cap, rfl, hc, hm⟩
theorem rexpr_r (o n : Int) (hn : n ≤ 9223372036854775807) (s : ByteArray) (pa : Option Addr) (k pc : Nat) (hk : k ≤ pc) (hpc : pc ≤ 9223372036854775807) (w : World) (z : Bool)
    (hE : ∀ W, Below w.heap.size w W → Calls Tryz.prog 69 #[.slice pa k pc] W fun e W' => e = .returned (.bool z) ∧ Below W.heap.size W W') (r : Bool) (hr : (exprB o n s k && z) = r) :
    Calls Tryz.prog 86 #[.agg #[.int .i64 o, .int .i64 n, .string s, .slice pa k pc]] w fun e w' => e = .returned (.bool r) ∧ Below w.heap.size w w' := by
  by_cases ho : 1 ≤ o ∧ o < 17
  · have : o = 1 ∨ o = 2 ∨ o = 3 ∨ o = 4 ∨ o = 5 ∨ o = 6 ∨ o = 7 ∨ o = 8 ∨ o = 9 ∨ o = 10 ∨ o = 11 ∨ o = 12 ∨ o = 13 ∨ o = 14 ∨ o = 15 ∨ o = 16 := by omega
    rcases this with rfl | rfl | rfl | rfl | rfl | rfl | rfl | rfl | rfl | rfl | rfl | rfl | rfl | rfl | rfl | rfl
    · exact rexpr_1 n hn s pa k pc hk hpc w z hE r hr
    · exact rexpr_2 n hn s pa k pc hk hpc w z hE r hr
    · exact rexpr_3 n hn s pa k pc hk hpc w z hE r hr
    · exact rexpr_4 n hn s pa k pc hk hpc w z hE r hr
    · exact rexpr_5 n hn s pa k pc hk hpc w z hE r hr
    · exact rexpr_6 n hn s pa k pc hk hpc w z hE r hr
    · exact rexpr_7 n hn s pa k pc hk hpc w z hE r hr
    · exact rexpr_8 n hn s pa k pc hk hpc w z hE r hr
    · exact rexpr_9 n hn s pa k pc hk hpc w z hE r hr
    · exact rexpr_10 n hn s pa k pc hk hpc w z hE r hr
    · exact rexpr_11 n hn s pa k pc hk hpc w z hE r hr
    · exact rexpr_12 n hn s pa k pc hk hpc w z hE r hr
    · exact rexpr_13 n hn s pa k pc hk hpc w z hE r hr
    · exact rexpr_14 n hn s pa k pc hk hpc w z hE r hr
    · exact rexpr_15 n hn s pa k pc hk hpc w z hE r hr
    · exact rexpr_16 n hn s pa k pc hk hpc w z hE r hr
  · have : r = false := by rw [← hr]; unfold exprB; rw [decide_eq_false ho]; rfl
    rw [this]
    exact rexpr_none o n ho s pa k pc hk hpc w

set_option maxHeartbeats 4000000 in
set_option maxRecDepth 1000000 in
theorem rexprs_in (w0 : World) {v : Value} {l : List ET} (h : ESl w0 v l) : ∀ (hn : ET.numL l = true) (q : Bool) (hq : ET.okL l = q) (w : World) (hw : Below w0.heap.size w0 w),
    Calls Tryz.prog 69 #[v] w fun e w' => e = .returned (.bool q) ∧ Below w.heap.size w w' := by
  induction h with
  | mk a b off cap l f ha hc hm hcell hsub ih =>
    intro hn q hq w hw
    have HA := Lib.hid ha
    have HC := Lib.hid hcell
    have HIH := Lib.hid ih
    have HSub := Lib.hid hsub
    have HNum := Lib.hid ((ET.numL_iff l).1 hn)
    have HW := Lib.hid hw
    have hm1 : cap ≤ 9223372036854775807 := hm
    have HQ := Lib.hid hq
    clear ha hcell ih hsub hw hm hq hn
    have HB := hb_start w
    go_enter Tryz.func69, Tryz.ntmps69
    go_wp2
    go_loopw [3] (fun i wr => ∃ k : Nat, i = .int .i64 k ∧ k ≤ l.length ∧ Hid (Below w.heap.size w wr) ∧ Hid (ET.okL (l.take k) = true)) (fun i _ => l.length - (intOf i).toNat)
    case atStart => exact ⟨0, rfl, by omega, HB, by show _ = _; rfl⟩
    case round =>
      clear HB
      obtain ⟨k, rfl, hk, HB, HK⟩ := hrel
      by_cases hlt : k < l.length
      · obtain rfl := HA.out (by omega)
        obtain ⟨e0, e1, e2, e3⟩ := HC.out k hlt
        have WB : Below w0.heap.size w0 wr := HW.out.trans (HB.out.mono HW.out.size)
        have hz : b < w0.heap.size := lt_of_cell e0
        replace e0 := (WB.cell (p := ⟨b, off + k * 4, none⟩) hz).trans e0
        replace e1 := (WB.cell (p := ⟨b, off + k * 4 + 1, none⟩) hz).trans e1
        replace e2 := (WB.cell (p := ⟨b, off + k * 4 + 2, none⟩) hz).trans e2
        replace e3 := (WB.cell (p := ⟨b, off + k * 4 + 3, none⟩) hz).trans e3
        have HI := Lib.hid (HIH.out k hlt)
        have HT := Lib.hid (ET.okL_take l k hlt)
        have HM := Lib.hid (ET.okL_mem l k hlt)
        have hX := ET.okB_parts (l.getD k default)
        have hY := (ET.numB_parts (l.getD k default)).symm.trans (HNum.out k hlt)
        have hsh := (HSub.out k hlt).shape1
        generalize l.getD k default = x at e0 e1 e2 HT HM hX hY HI hsh
        generalize f k = pv at e3 HI hsh
        obtain ⟨o, n, s, ps⟩ := x
        simp only [ET.op, ET.num, ET.name, ET.parts] at e0 e1 e2 hX hY HI hsh
        obtain ⟨pa, pc, rfl, hpl, hpc⟩ := hsh
        obtain ⟨hn, hY⟩ := (Bool.and_eq_true _ _).mp hY
        replace hn := of_decide_eq_true hn
        have HNP := Lib.hid hY
        obtain ⟨z, hz'⟩ : ∃ z, ET.okL ps = z := ⟨_, rfl⟩
        obtain ⟨t, ht⟩ : ∃ z, ET.okB (.mk o n s ps) = z := ⟨_, rfl⟩
        rw [ht, hz'] at hX
        rw [ht] at HT HM
        have HX := Lib.hid hX.symm
        have HZ := Lib.hid hz'
        have HWB := Lib.hid WB
        clear hz' WB hz hX hY ht
        cases t with
        | true =>
          go_wp2_with (go_at_call 86; refine (rexpr_r o n hn s pa _ pc hpl hpc _ z (fun W hW => HI.out HNP.out _ HZ.out W (HWB.out.trans (hW.mono HWB.out.size))) _ HX.out).mono ?_; rintro e w' ⟨rfl, hb⟩; have HB2 : Hid (Below w.heap.size w w') := hb_step HB hb; clear hb)
          go_roundw
          case rel => exact ⟨k + 1, by go_num, by omega, HB2, by show _ = _; rw [HT.out, HK.out]; rfl⟩
          case measure => simp [intOf]; omega
        | false =>
          go_wp2_with (go_at_call 86; refine (rexpr_r o n hn s pa _ pc hpl hpc _ z (fun W hW => HI.out HNP.out _ HZ.out W (HWB.out.trans (hW.mono HWB.out.size))) _ HX.out).mono ?_; rintro e w' ⟨rfl, hb⟩; have HB2 : Hid (Below w.heap.size w w') := hb_step HB hb; clear hb)
          go_ret
          obtain rfl : q = false := by rw [← HQ.out, HM.out (by first | rfl | trivial)]
          exact ⟨rfl, HB2.out⟩
      · obtain rfl : k = l.length := by omega
        obtain rfl : q = true := by rw [← HQ.out, ← HK.out, List.take_length]
        go_wp2
        go_ret
        exact ⟨rfl, HB.out⟩
end Go.Proofs.YthjjcmmonjajhaaGreatDoor
