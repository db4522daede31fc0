/- The document's Deep, many. -/
import Derived.Test.YtplckmpamekloaaDoorTellsPure
import Derived.Test.YtplckmpamekloaaDoorTreeSame
namespace Go.Proofs.YtplckmpamekloaaDoor
open Go.RowKit Go.Sort
set_option linter.unusedVariables false

set_option maxHeartbeats 4000000 in
set_option maxRecDepth 1000000 in
theorem rdeep_in (w0 : World) {v : Value} {l : List ET} (h : ESl w0 v l) : ∀ (q : Int) (hq : ET.rdeepL l 0 = q) (w : World) (hw : Below w0.heap.size w0 w),
    Calls Tryd.prog 49 #[v] w fun e w' => e = .returned (.int .i64 q) ∧ Below w.heap.size w w' := by
  induction h with
  | mk a b off cap l f ha hc hm hcell hsub ih =>
    intro q hq w hw
    have HA := Lib.hid ha
    have HC := Lib.hid hcell
    have HIH := Lib.hid ih
    have HSub := Lib.hid hsub
    have HW := Lib.hid hw
    have hm1 : cap ≤ 9223372036854775807 := hm
    have HQ := Lib.hid hq
    clear ha hcell ih hsub hw hm hq
    have HB := hb_start w
    go_enter Tryd.func49, Tryd.ntmps49
    go_wp2
    go_loopw [3, 4] (fun x i wr => ∃ (k : Nat) (m : Int), i = .int .i64 k ∧ x = .int .i64 m ∧ k ≤ l.length ∧ Hid (Below w.heap.size w wr) ∧ Hid (ET.rdeepL (l.take k) 0 = m)) (fun _ i _ => l.length - (intOf i).toNat)
    case atStart => exact ⟨0, 0, rfl, rfl, by omega, HB, by show _ = _; rfl⟩
    case round =>
      clear HB
      obtain ⟨k, m, rfl, rfl, hk, HB, HK⟩ := hrel
      by_cases hlt : k < l.length
      · obtain rfl := HA.out (by omega)
        have e3 := (HC.out k hlt).2.2.2
        have WB : Below w0.heap.size w0 wr := HW.out.trans (HB.out.mono HW.out.size)
        have hz : b < w0.heap.size := lt_of_cell e3
        replace e3 := (WB.cell (p := ⟨b, off + k * 4 + 3, none⟩) hz).trans e3
        have HI := Lib.hid (HIH.out k hlt)
        have HT := Lib.hid (ET.rdeepL_take l 0 k hlt)
        have hsh := (HSub.out k hlt).shape0
        generalize f k = pv at e3 HI hsh
        generalize (l.getD k default).parts = ps at HT HI hsh
        obtain ⟨pa, pc, rfl⟩ := hsh
        obtain ⟨z, hz'⟩ : ∃ z, ET.rdeepL ps 0 = z := ⟨_, rfl⟩
        obtain ⟨x, hx⟩ : ∃ x, wrap64 (1 + z) = x := ⟨_, rfl⟩
        have HT2 : Hid (ET.rdeepL (l.take (k + 1)) 0 = max m x) := by show _ = _; rw [HT.out, HK.out, hz', hx]
        have HZ := Lib.hid hz'
        have HWB := Lib.hid WB
        clear hz' HT WB hz
        rcases Int.lt_or_le m x with hmx | hmx
        · have HM : Hid (max m x = x) := Int.max_eq_right (by omega)
          go_wp2_with (go_at_call 49; refine (HI.out _ HZ.out _ HWB.out).mono ?_; rintro e w' ⟨rfl, hb⟩; have HB2 : Hid (Below w.heap.size w w') := hb_step HB hb; clear hb)
          go_roundw
          case rel => exact ⟨k + 1, x, by go_num, rfl, by omega, HB2, by show _ = _; rw [HT2.out, HM.out]⟩
          case measure => simp [intOf]; omega
        · have HM : Hid (max m x = m) := Int.max_eq_left (by omega)
          go_wp2_with (go_at_call 49; refine (HI.out _ HZ.out _ HWB.out).mono ?_; rintro e w' ⟨rfl, hb⟩; have HB2 : Hid (Below w.heap.size w w') := hb_step HB hb; clear hb)
          go_roundw
          case rel => exact ⟨k + 1, m, by go_num, rfl, by omega, HB2, by show _ = _; rw [HT2.out, HM.out]⟩
          case measure => simp [intOf]; omega
      · obtain rfl : k = l.length := by omega
        obtain rfl : m = q := by rw [← HK.out, ← HQ.out, List.take_length]
        go_wp2
        go_ret
        exact ⟨rfl, HB.out⟩

set_option maxHeartbeats 4000000 in
set_option maxRecDepth 1000000 in
theorem rmany_in (w0 : World) {v : Value} {l : List ET} (h : ESl w0 v l) : ∀ (q : Int) (hq : ET.rmanyL l l.length = q) (w : World) (hw : Below w0.heap.size w0 w),
    Calls Tryd.prog 50 #[v] w fun e w' => e = .returned (.int .i64 q) ∧ Below w.heap.size w w' := by
  induction h with
  | mk a b off cap l f ha hc hm hcell hsub ih =>
    intro q hq w hw
    have HA := Lib.hid ha
    have HC := Lib.hid hcell
    have HIH := Lib.hid ih
    have HSub := Lib.hid hsub
    have HW := Lib.hid hw
    have hm1 : cap ≤ 9223372036854775807 := hm
    have HQ := Lib.hid hq
    clear ha hcell ih hsub hw hm hq
    have HB := hb_start w
    go_enter Tryd.func50, Tryd.ntmps50
    go_wp2
    go_loopw [3, 4] (fun x i wr => ∃ (k : Nat) (m : Int), i = .int .i64 k ∧ x = .int .i64 m ∧ k ≤ l.length ∧ Hid (Below w.heap.size w wr) ∧ Hid (ET.rmanyL (l.take k) l.length = m)) (fun _ i _ => l.length - (intOf i).toNat)
    case atStart => exact ⟨0, l.length, rfl, rfl, by omega, HB, by show _ = _; rfl⟩
    case round =>
      clear HB
      obtain ⟨k, m, rfl, rfl, hk, HB, HK⟩ := hrel
      by_cases hlt : k < l.length
      · obtain rfl := HA.out (by omega)
        have e3 := (HC.out k hlt).2.2.2
        have WB : Below w0.heap.size w0 wr := HW.out.trans (HB.out.mono HW.out.size)
        have hz : b < w0.heap.size := lt_of_cell e3
        replace e3 := (WB.cell (p := ⟨b, off + k * 4 + 3, none⟩) hz).trans e3
        have HI := Lib.hid (HIH.out k hlt)
        have HT := Lib.hid (ET.rmanyL_take l l.length k hlt)
        have hsh := (HSub.out k hlt).shape0
        generalize f k = pv at e3 HI hsh
        generalize (l.getD k default).parts = ps at HT HI hsh
        obtain ⟨pa, pc, rfl⟩ := hsh
        obtain ⟨z, hz'⟩ : ∃ z, ET.rmanyL ps ps.length = z := ⟨_, rfl⟩
        obtain ⟨x, hx⟩ : ∃ x, wrap64 (m + z) = x := ⟨_, rfl⟩
        have HT2 : Hid (ET.rmanyL (l.take (k + 1)) l.length = x) := by show _ = _; rw [HT.out, HK.out, hz', hx]
        have HZ := Lib.hid hz'
        have HWB := Lib.hid WB
        clear hz' HT WB hz
        go_wp2_with (go_at_call 50; refine (HI.out _ HZ.out _ HWB.out).mono ?_; rintro e w' ⟨rfl, hb⟩; have HB2 : Hid (Below w.heap.size w w') := hb_step HB hb; clear hb)
        go_roundw
        case rel => exact ⟨k + 1, x, by go_num, by rw [hx], by omega, HB2, HT2⟩
        case measure => simp [intOf]; omega
      · obtain rfl : k = l.length := by omega
        obtain rfl : m = q := by rw [← HK.out, ← HQ.out, List.take_length]
        go_wp2
        go_ret
        exact ⟨rfl, HB.out⟩
end Go.Proofs.YtplckmpamekloaaDoor
