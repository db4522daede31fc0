/- The document's Depth, Size. -/
import Derived.Test.YtplckmpamekloaaDoorTellsS
namespace Go.Proofs.YtplckmpamekloaaDoor
open Go.RowKit Go.Sort
set_option linter.unusedVariables false

def FT.rdepthL (l : List FT) (n : Int) : Int := l.foldl (fun n f => max n (ST.rdeepL f.body 0)) n
def FT.rsizeL (l : List FT) (n : Int) : Int := l.foldl (fun n f => wrap64 (n + ST.rmanyL f.body f.body.length)) n
def PT.rdepth (p : PT) : Int := FT.rdepthL p.funcs (ST.rdeepL p.main 0)
def PT.rsize (p : PT) : Int := FT.rsizeL p.funcs (ST.rmanyL p.main p.main.length)
theorem FT.rdepthL_take (l : List FT) (n : Int) (k : Nat) (h : k < l.length) : FT.rdepthL (l.take (k + 1)) n = max (FT.rdepthL (l.take k) n) (ST.rdeepL (l.getD k default).body 0) := by
  rw [take_next l default k h]; simp [FT.rdepthL]
theorem FT.rsizeL_take (l : List FT) (n : Int) (k : Nat) (h : k < l.length) : FT.rsizeL (l.take (k + 1)) n = wrap64 (FT.rsizeL (l.take k) n + ST.rmanyL (l.getD k default).body (l.getD k default).body.length) := by
  rw [take_next l default k h]; simp [FT.rsizeL]

set_option maxHeartbeats 4000000 in
set_option maxRecDepth 1000000 in
theorem rdepth_r (w : World) {fv mv : Value} {p : PT} (hp : PR w fv mv p) (q : Int) (hq : p.rdepth = q) :
    Calls Tryd.prog 15 #[.agg #[fv, mv]] w fun e w' => e = .returned (.int .i64 q) ∧ Below w.heap.size w w' := by
  obtain ⟨fl, ml⟩ := p
  obtain ⟨hF, hM⟩ := hp
  obtain ⟨ma, mc, rfl⟩ := hM.shape0
  simp only at hF hM
  cases hF with
  | mk a b off cap _ f g ha hc hm hcell hts hss =>
    have HA := Lib.hid ha
    have HC := Lib.hid hcell
    have HS := Lib.hid hss
    have HM := Lib.hid hM
    have hm1 : cap ≤ 9223372036854775807 := hm
    have HQ := Lib.hid hq
    obtain ⟨m0, hm0⟩ : ∃ z, ST.rdeepL ml 0 = z := ⟨_, rfl⟩
    have HM0 := Lib.hid hm0
    clear ha hcell hts hss hm hq hM hm0
    have HB := hb_start w
    go_enter Tryd.func15, Tryd.ntmps15
    go_wp2_with fail
    refine (rdeeper_in w HM.out _ HM0.out _ ((Below.refl _ _).alloc (Nat.le_refl _) _)).mono ?_
    rintro e w1 ⟨rfl, hb⟩
    have HB1 : Hid (Below w.heap.size w w1) := hb_step (by repeat (first | exact HB | refine hb_drew ?_ | refine hb_alloc ?_ _)) hb
    have HY : Hid (w1.cell? ⟨w.heap.size, 0, none⟩ = some (.slice a fl.length cap)) := (hb.cell (p := ⟨w.heap.size, 0, none⟩) (by simp)).trans (by simp)
    clear hb HB
    have y0 := HY.out
    go_wp2_with fail
    go_loopw [3, 4] (fun x i wr => ∃ (k : Nat) (m : Int), i = .int .i64 k ∧ x = .int .i64 m ∧ k ≤ fl.length ∧ Hid (Below w1.heap.size w1 wr) ∧ Hid (FT.rdepthL (fl.take k) m0 = m)) (fun _ i _ => fl.length - (intOf i).toNat)
    case atStart => exact ⟨0, m0, rfl, rfl, by omega, hb_start w1, by show _ = _; rfl⟩
    case round =>
      clear y0
      obtain ⟨k, m, rfl, rfl, hk, HB2, HK⟩ := hrel
      have y0 := cell_below HB2 HY.out
      by_cases hlt : k < fl.length
      · obtain rfl := HA.out (by omega)
        have e2 := (HC.out k hlt).2.2
        have WB : Below w.heap.size w wr := HB1.out.trans (HB2.out.mono HB1.out.size)
        have hz : b < w.heap.size := lt_of_cell e2
        replace e2 := (WB.cell (p := ⟨b, off + k * 3 + 2, none⟩) hz).trans e2
        have HI := Lib.hid (HS.out k hlt)
        have HT := Lib.hid (FT.rdepthL_take fl m0 k hlt)
        have hsh := (HS.out k hlt).shape0
        generalize g k = pv at e2 HI hsh
        generalize (fl.getD k default).body = ps at HT HI hsh
        obtain ⟨pa, pc, rfl⟩ := hsh
        obtain ⟨x, hx⟩ : ∃ z, ST.rdeepL ps 0 = z := ⟨_, rfl⟩
        have HT2 : Hid (FT.rdepthL (fl.take (k + 1)) m0 = max m x) := by show _ = _; rw [HT.out, HK.out, hx]
        have HX := Lib.hid hx
        have HWB := Lib.hid WB
        clear hx HT WB hz
        rcases Int.lt_or_le m x with hmx | hmx
        · have HM : Hid (max m x = x) := Int.max_eq_right (by omega)
          go_wp2_with (go_at_call 28; refine (rdeeper_in w HI.out _ HX.out _ HWB.out).mono ?_; rintro e w' ⟨rfl, hb⟩; have HB3 : Hid (Below w1.heap.size w1 w') := hb_step HB2 hb; clear hb)
          go_roundw
          case rel => exact ⟨k + 1, x, by go_num, rfl, by omega, HB3, by show _ = _; rw [HT2.out, HM.out]⟩
          case measure => simp [intOf]; omega
        · have HM : Hid (max m x = m) := Int.max_eq_left (by omega)
          go_wp2_with (go_at_call 28; refine (rdeeper_in w HI.out _ HX.out _ HWB.out).mono ?_; rintro e w' ⟨rfl, hb⟩; have HB3 : Hid (Below w1.heap.size w1 w') := hb_step HB2 hb; clear hb)
          go_roundw
          case rel => exact ⟨k + 1, m, by go_num, rfl, by omega, HB3, by show _ = _; rw [HT2.out, HM.out]⟩
          case measure => simp [intOf]; omega
      · obtain rfl : k = fl.length := by omega
        obtain rfl : m = q := by rw [← HK.out, ← HQ.out, List.take_length, ← HM0.out]; rfl
        go_wp2
        go_ret
        exact ⟨rfl, HB1.out.trans (HB2.out.mono HB1.out.size)⟩

set_option maxHeartbeats 4000000 in
set_option maxRecDepth 1000000 in
theorem rsize_r (w : World) {fv mv : Value} {p : PT} (hp : PR w fv mv p) (q : Int) (hq : p.rsize = q) :
    Calls Tryd.prog 17 #[.agg #[fv, mv]] w fun e w' => e = .returned (.int .i64 q) ∧ Below w.heap.size w w' := by
  obtain ⟨fl, ml⟩ := p
  obtain ⟨hF, hM⟩ := hp
  obtain ⟨ma, mc, rfl⟩ := hM.shape0
  simp only at hF hM
  cases hF with
  | mk a b off cap _ f g ha hc hm hcell hts hss =>
    have HA := Lib.hid ha
    have HC := Lib.hid hcell
    have HS := Lib.hid hss
    have HM := Lib.hid hM
    have hm1 : cap ≤ 9223372036854775807 := hm
    have HQ := Lib.hid hq
    obtain ⟨m0, hm0⟩ : ∃ z, ST.rmanyL ml ml.length = z := ⟨_, rfl⟩
    have HM0 := Lib.hid hm0
    clear ha hcell hts hss hm hq hM hm0
    have HB := hb_start w
    go_enter Tryd.func17, Tryd.ntmps17
    go_wp2_with fail
    refine (rmore_in w HM.out _ HM0.out _ ((Below.refl _ _).alloc (Nat.le_refl _) _)).mono ?_
    rintro e w1 ⟨rfl, hb⟩
    have HB1 : Hid (Below w.heap.size w w1) := hb_step (by repeat (first | exact HB | refine hb_drew ?_ | refine hb_alloc ?_ _)) hb
    have HY : Hid (w1.cell? ⟨w.heap.size, 0, none⟩ = some (.slice a fl.length cap)) := (hb.cell (p := ⟨w.heap.size, 0, none⟩) (by simp)).trans (by simp)
    clear hb HB
    have y0 := HY.out
    go_wp2_with fail
    go_loopw [3, 4] (fun x i wr => ∃ (k : Nat) (m : Int), i = .int .i64 k ∧ x = .int .i64 m ∧ k ≤ fl.length ∧ Hid (Below w1.heap.size w1 wr) ∧ Hid (FT.rsizeL (fl.take k) m0 = m)) (fun _ i _ => fl.length - (intOf i).toNat)
    case atStart => exact ⟨0, m0, rfl, rfl, by omega, hb_start w1, by show _ = _; rfl⟩
    case round =>
      clear y0
      obtain ⟨k, m, rfl, rfl, hk, HB2, HK⟩ := hrel
      have y0 := cell_below HB2 HY.out
      by_cases hlt : k < fl.length
      · obtain rfl := HA.out (by omega)
        have e2 := (HC.out k hlt).2.2
        have WB : Below w.heap.size w wr := HB1.out.trans (HB2.out.mono HB1.out.size)
        have hz : b < w.heap.size := lt_of_cell e2
        replace e2 := (WB.cell (p := ⟨b, off + k * 3 + 2, none⟩) hz).trans e2
        have HI := Lib.hid (HS.out k hlt)
        have HT := Lib.hid (FT.rsizeL_take fl m0 k hlt)
        have hsh := (HS.out k hlt).shape0
        generalize g k = pv at e2 HI hsh
        generalize (fl.getD k default).body = ps at HT HI hsh
        obtain ⟨pa, pc, rfl⟩ := hsh
        obtain ⟨x, hx⟩ : ∃ z, ST.rmanyL ps ps.length = z := ⟨_, rfl⟩
        have HT2 : Hid (FT.rsizeL (fl.take (k + 1)) m0 = wrap64 (m + x)) := by show _ = _; rw [HT.out, HK.out, hx]
        have HX := Lib.hid hx
        have HWB := Lib.hid WB
        clear hx HT WB hz
        go_wp2_with (go_at_call 29; refine (rmore_in w HI.out _ HX.out _ HWB.out).mono ?_; rintro e w' ⟨rfl, hb⟩; have HB3 : Hid (Below w1.heap.size w1 w') := hb_step HB2 hb; clear hb)
        go_roundw
        case rel => exact ⟨k + 1, _, by go_num, rfl, by omega, HB3, HT2⟩
        case measure => simp [intOf]; omega
      · obtain rfl : k = fl.length := by omega
        obtain rfl : m = q := by rw [← HK.out, ← HQ.out, List.take_length, ← HM0.out]; rfl
        go_wp2
        go_ret
        exact ⟨rfl, HB1.out.trans (HB2.out.mono HB1.out.size)⟩
end Go.Proofs.YtplckmpamekloaaDoor
