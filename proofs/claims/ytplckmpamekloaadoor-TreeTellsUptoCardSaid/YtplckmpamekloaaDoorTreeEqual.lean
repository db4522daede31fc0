/- tree.Equal. -/
import Derived.Test.YtplckmpamekloaaDoorTreeAlike
import Derived.Deep.QuietTactic
import Derived.BigQuiet
import Derived.Test.YtplckmpamekloaaDoorTreeExpr
namespace Go.Proofs.YtplckmpamekloaaDoor
open Go.RowKit Go.Sort
set_option linter.unusedVariables false

set_option maxHeartbeats 4000000 in
set_option maxRecDepth 1000000 in
theorem eqt_r (w : World) {v v' : Value} {l r : List ByteArray} (h : TSl w v l) (h' : TSl w v' r) (q : Bool) (hq : eqS l r = q) :
    Calls Tryd.prog 31 #[v, v'] w fun e w' => e = .returned (.bool q) ∧ Below w.heap.size w w' := by
  cases h with
  | mk a b off cap l ha hc hm hcell =>
    cases h' with
    | mk a' b' off' cap' r ha' hc' hm' hcell' =>
      have HA := Lib.hid ha
      have HA' := Lib.hid ha'
      have HC := Lib.hid hcell
      have HC' := Lib.hid hcell'
      have HQ : Hid ((decide (l.length = r.length) && allB l.length (fun i => (l.getD i ByteArray.empty).toList == (r.getD i ByteArray.empty).toList)) = q) := hq
      have hm1 : cap ≤ 9223372036854775807 := hm
      have hm1' : cap' ≤ 9223372036854775807 := hm'
      clear ha ha' hcell hcell' hm hm' hq
      have HB := hb_start w
      by_cases hlen : l.length = r.length
      · have hne : ((l.length : Int) != (r.length : Int)) = false := by rw [hlen]; simp
        have HL := Lib.hid hlen
        clear hlen
        go_enter Tryd.func31, Tryd.ntmps31
        go_wp2
        go_loopw [13] (fun i wr => ∃ k : Nat, i = .int .i64 k ∧ k ≤ l.length ∧ Hid (Below w.heap.size w wr) ∧ Hid (allB k (fun i => (l.getD i ByteArray.empty).toList == (r.getD i ByteArray.empty).toList) = true)) (fun i _ => l.length - (intOf i).toNat)
        case atStart => exact ⟨0, rfl, by omega, HB, by show _ = _; rfl⟩
        case round =>
          clear HB hne
          obtain ⟨k, rfl, hk, HB, HK⟩ := hrel
          by_cases hlt : k < l.length
          · have hlt' : k < r.length := by have := HL.out; omega
            obtain rfl := HA.out (by omega)
            obtain rfl := HA'.out (by omega)
            have e0 := HC.out k hlt
            have e0' := HC'.out k hlt'
            replace e0 := (HB.out.cell (p := ⟨b, off + k, none⟩) (lt_of_cell e0)).trans e0
            replace e0' := (HB.out.cell (p := ⟨b', off' + k, none⟩) (lt_of_cell e0')).trans e0'
            have hX : allB (k + 1) (fun i => (l.getD i ByteArray.empty).toList == (r.getD i ByteArray.empty).toList) = (allB k (fun i => (l.getD i ByteArray.empty).toList == (r.getD i ByteArray.empty).toList) && ((l.getD k ByteArray.empty).toList == (r.getD k ByteArray.empty).toList)) := allB_next k (fun i => (l.getD i ByteArray.empty).toList == (r.getD i ByteArray.empty).toList)
            have hN : ((l.getD k ByteArray.empty).toList == (r.getD k ByteArray.empty).toList) = false → allB l.length (fun i => (l.getD i ByteArray.empty).toList == (r.getD i ByteArray.empty).toList) = false := allB_no l.length k (fun i => (l.getD i ByteArray.empty).toList == (r.getD i ByteArray.empty).toList) hlt
            generalize l.getD k ByteArray.empty = x at e0 hX hN
            generalize r.getD k ByteArray.empty = y at e0' hX hN
            have i1 : (k : Int) < (l.length : Int) := by omega
            have i2 : (k : Int) < (r.length : Int) := by omega
            obtain ⟨t, ht⟩ : ∃ t, (x.toList == y.toList) = t := ⟨_, rfl⟩
            have hne := ht
            rw [ht] at hX hN
            have HX := Lib.hid hX
            have HN := Lib.hid hN
            clear ht hX hN
            cases t with
            | true =>
              go_wp2
              go_quiet (fail)
              go_wp2
              go_roundw
              case rel => exact ⟨k + 1, by go_num, by omega, below_drewN HB.out _, by show _ = _; rw [HX.out, HK.out]; rfl⟩
              case measure => simp [intOf]; omega
            | false =>
              replace HN := Lib.hid (HN.out rfl)
              go_wp2
              go_quiet (fail)
              go_wp2
              go_ret
              obtain rfl : q = false := by rw [← HQ.out, HN.out, Bool.and_false]
              exact ⟨rfl, below_drewN HB.out _⟩
          · obtain rfl : k = l.length := by omega
            go_wp2
            go_ret
            obtain rfl : q = true := by rw [← HQ.out, HK.out, decide_eq_true HL.out]; rfl
            exact ⟨rfl, HB.out⟩
      · have hne : ((l.length : Int) != (r.length : Int)) = true := by simp; omega
        have HL := Lib.hid hlen
        clear hlen
        go_enter Tryd.func31, Tryd.ntmps31
        go_wp2
        go_ret
        obtain rfl : q = false := by rw [← HQ.out, decide_eq_false HL.out]; rfl
        exact ⟨rfl, HB.out⟩

set_option maxHeartbeats 8000000 in
set_option maxRecDepth 1000000 in
theorem equal1_v (s : ByteArray) (pa : Option Addr) (k pc : Nat) (pb : Option Addr) (kb cb : Nat) (s' : ByteArray) (pa' : Option Addr) (k' pc' : Nat) (pb' : Option Addr) (kb' cb' : Nat) (l r : List ByteArray) (q2 t : Bool) (w : World)
    (h1 : TSl w (.slice pa k pc) l) (h1' : TSl w (.slice pa' k' pc') r)
    (hE2 : Cmp 32 33 (.slice pb kb cb) (.slice pb' kb' cb') q2 w)
    (ht : ((s.toList == s'.toList) && (eqS l r && q2)) = t) :
    Calls Tryd.prog 30 #[.agg #[.string s, .slice pa k pc, .slice pb kb cb], .agg #[.string s', .slice pa' k' pc', .slice pb' kb' cb']] w fun e w' => e = .returned (.bool t) ∧ Below w.heap.size w w' := by
  subst ht
  obtain ⟨q1, hq1⟩ : ∃ b, eqS l r = b := ⟨_, rfl⟩
  obtain ⟨b1, hb1⟩ : ∃ b, (s.toList == s'.toList) = b := ⟨_, rfl⟩
  rw [hq1, hb1]
  have HE2 := Lib.hid hE2
  have H1 := Lib.hid h1
  have H1' := Lib.hid h1'
  have HQ1 := Lib.hid hq1
  clear hE2 h1 h1' hq1
  have HB := hb_start w
  have hc : b1 = false ∨ (b1 = true ∧ (q1 = false ∨ q1 = true)) := by cases b1 <;> cases q1 <;> simp
  rcases hc with rfl | ⟨rfl, rfl | rfl⟩
  all_goals
    go_enter Tryd.func30, Tryd.ntmps30
    go_wp2_with (first
      | (go_at_call 31; refine (eqt_r _ (H1.out.stay (((Below.refl _ _).alloc (Nat.le_refl _) _).alloc (by simp) _)) (H1'.out.stay (((Below.refl _ _).alloc (Nat.le_refl _) _).alloc (by simp) _)) _ HQ1.out).mono ?_; rintro e w1 ⟨rfl, hb⟩; have HB1 : Hid (Below w.heap.size w w1) := hb_step (by repeat (first | exact HB | refine hb_drew ?_ | refine hb_alloc ?_ _)) hb; have c2 := (hb.cell (p := ⟨w.heap.size, 2, none⟩) (by simp; omega)).trans (show _ = some (Value.slice pb kb cb) by simp); have d2 := (hb.cell (p := ⟨w.heap.size + 1, 2, none⟩) (by simp)).trans (show _ = some (Value.slice pb' kb' cb') by simp); clear hb)
      | (go_at_call 32; refine (HE2.out _ HB1.out).mono ?_; rintro e w2 ⟨rfl, hb⟩; have HB2 : Hid (Below w.heap.size w w2) := hb_step HB1 hb; clear hb))
    go_ret
    first | exact ⟨by simp, HB2.out⟩ | exact ⟨by simp, HB1.out⟩ | exact ⟨by simp, (hb_alloc (hb_alloc HB _) _).out⟩

set_option maxHeartbeats 4000000 in
set_option maxRecDepth 1000000 in
theorem eqf_in (w0 : World) {v : Value} {l : List FT} (h : FSl w0 v l) : ∀ (v' : Value) (r : List FT) (q : Bool) (hq : FT.sameL l r = q) (w : World) (hw : Below w0.heap.size w0 w) (hh' : FSl w0 v' r),
    Calls Tryd.prog 34 #[v, v', .func (.func 30) #[] #[]] w fun e w' => e = .returned (.bool q) ∧ Below w.heap.size w w' := by
  intro v' r q hq w hw hh'
  cases h with
  | mk a b off cap l f g ha hc hm hcell hsub hbod =>
    cases hh' with
    | mk a' b' off' cap' r f' g' ha' hc' hm' hcell' hsub' hbod' =>
      have HA := Lib.hid ha
      have HA' := Lib.hid ha'
      have HC := Lib.hid hcell
      have HC' := Lib.hid hcell'
      have HBod := Lib.hid hbod
      have HBod' := Lib.hid hbod'
      have HSub := Lib.hid hsub
      have HSub' := Lib.hid hsub'
      have HW := Lib.hid hw
      have hm1 : cap ≤ 9223372036854775807 := hm
      have hm1' : cap' ≤ 9223372036854775807 := hm'
      rw [FT.sameL_eq] at hq
      have HQ := Lib.hid hq
      clear ha ha' hcell hcell' hbod hbod' hsub hsub' hw hm hm' hq
      have HB := hb_start w
      by_cases hlen : l.length = r.length
      · have hne : ((l.length : Int) != (r.length : Int)) = false := by rw [hlen]; simp
        have HL := Lib.hid hlen
        clear hlen
        go_enter Tryd.func34, Tryd.ntmps34
        go_wp2
        go_loopw [17] (fun i wr => ∃ k : Nat, i = .int .i64 k ∧ k ≤ l.length ∧ Hid (Below w.heap.size w wr) ∧ Hid (allB k (fun i => FT.same (l.getD i default) (r.getD i default)) = true)) (fun i _ => l.length - (intOf i).toNat)
        case atStart => exact ⟨0, rfl, by omega, HB, by show _ = _; rfl⟩
        case round =>
          clear HB hne
          obtain ⟨k, rfl, hk, HB, HK⟩ := hrel
          by_cases hlt : k < l.length
          · have hlt' : k < r.length := by have := HL.out; omega
            obtain rfl := HA.out (by omega)
            obtain rfl := HA'.out (by omega)
            obtain ⟨e0, e1, e2⟩ := HC.out k hlt
            obtain ⟨e0', e1', e2'⟩ := HC'.out k hlt'
            have WB : Below w0.heap.size w0 wr := HW.out.trans (HB.out.mono HW.out.size)
            have hz : b < w0.heap.size := lt_of_cell e0
            have hz' : b' < w0.heap.size := lt_of_cell e0'
            replace e0 := (WB.cell (p := ⟨b, off + k * 3, none⟩) hz).trans e0
            replace e1 := (WB.cell (p := ⟨b, off + k * 3 + 1, none⟩) hz).trans e1
            replace e2 := (WB.cell (p := ⟨b, off + k * 3 + 2, none⟩) hz).trans e2
            replace e0' := (WB.cell (p := ⟨b', off' + k * 3, none⟩) hz').trans e0'
            replace e1' := (WB.cell (p := ⟨b', off' + k * 3 + 1, none⟩) hz').trans e1'
            replace e2' := (WB.cell (p := ⟨b', off' + k * 3 + 2, none⟩) hz').trans e2'
            have hX : allB (k + 1) (fun i => FT.same (l.getD i default) (r.getD i default)) = (allB k (fun i => FT.same (l.getD i default) (r.getD i default)) && FT.same (l.getD k default) (r.getD k default)) := allB_next k (fun i => FT.same (l.getD i default) (r.getD i default))
            have hN : FT.same (l.getD k default) (r.getD k default) = false → allB l.length (fun i => FT.same (l.getD i default) (r.getD i default)) = false := allB_no l.length k (fun i => FT.same (l.getD i default) (r.getD i default)) hlt
            have HI2 := Lib.hid (eqs_in w0 (HBod.out k hlt))
            have hsh := (HSub.out k hlt).shape0
            have hsh' := (HSub'.out k hlt').shape0
            have hsb := (HBod.out k hlt).shape0
            have hsb' := (HBod'.out k hlt').shape0
            have HS0 := Lib.hid (HSub.out k hlt)
            have HS1 := Lib.hid (HSub'.out k hlt')
            have HS2 := Lib.hid (HBod'.out k hlt')
            generalize l.getD k default = x at e0 hX hN HI2 hsh hsb HS0
            generalize r.getD k default = y at e0' hX hN HS1 HS2 hsh' hsb'
            generalize f k = pv at e1 HS0 hsh
            generalize g k = pv at e2 HI2 hsb
            generalize f' k = pv' at e1' HS1 hsh'
            generalize g' k = pv' at e2' HS2 hsb'
            obtain ⟨s, ps, bs⟩ := x
            obtain ⟨s', ps', bs'⟩ := y
            dsimp only at e0 e0' HI2 HS0 HS1 HS2 hsh hsb hsh' hsb'
            obtain ⟨pa, pc, rfl⟩ := hsh
            obtain ⟨pa', pc', rfl⟩ := hsh'
            obtain ⟨pb, cb, rfl⟩ := hsb
            obtain ⟨pb', cb', rfl⟩ := hsb'
            obtain ⟨t, ht⟩ : ∃ t, FT.same ⟨s, ps, bs⟩ ⟨s', ps', bs'⟩ = t := ⟨_, rfl⟩
            rw [ht] at hX hN
            have HT := Lib.hid ht
            have HX := Lib.hid hX
            have HN := Lib.hid hN
            have hzw : b' < wr.heap.size := Nat.lt_of_lt_of_le hz' WB.size
            have HWB := Lib.hid WB
            clear ht hX hN WB
            cases t with
            | true =>
              go_wp2_with (go_at_call 30; refine (equal1_v s pa ps.length pc pb bs.length cb s' pa' ps'.length pc' pb' bs'.length cb' ps ps' (ST.sameL bs bs') _ _ (HS0.out.stay (HWB.out.trans ((((Below.refl _ _).alloc (Nat.le_refl _) _).alloc (by simp) _).mono HWB.out.size))) (HS1.out.stay (HWB.out.trans ((((Below.refl _ _).alloc (Nat.le_refl _) _).alloc (by simp) _).mono HWB.out.size))) (fun W hW => HI2.out _ bs' _ rfl W (HWB.out.trans ((((Below.refl _ _).alloc (Nat.le_refl _) _).alloc (by simp) _).trans (hW.mono (by simp; omega)) |>.mono HWB.out.size)) HS2.out) HT.out).mono ?_; rintro e w' ⟨rfl, hb⟩; have HB2 : Hid (Below w.heap.size w w') := hb_step (by repeat (first | exact HB | refine hb_drew ?_ | refine hb_alloc ?_ _)) hb; clear hb)
              go_roundw
              case rel => exact ⟨k + 1, by go_num, by omega, HB2, by show _ = _; rw [HX.out, HK.out]; rfl⟩
              case measure => simp [intOf]; omega
            | false =>
              replace HN := Lib.hid (HN.out rfl)
              go_wp2_with (go_at_call 30; refine (equal1_v s pa ps.length pc pb bs.length cb s' pa' ps'.length pc' pb' bs'.length cb' ps ps' (ST.sameL bs bs') _ _ (HS0.out.stay (HWB.out.trans ((((Below.refl _ _).alloc (Nat.le_refl _) _).alloc (by simp) _).mono HWB.out.size))) (HS1.out.stay (HWB.out.trans ((((Below.refl _ _).alloc (Nat.le_refl _) _).alloc (by simp) _).mono HWB.out.size))) (fun W hW => HI2.out _ bs' _ rfl W (HWB.out.trans ((((Below.refl _ _).alloc (Nat.le_refl _) _).alloc (by simp) _).trans (hW.mono (by simp; omega)) |>.mono HWB.out.size)) HS2.out) HT.out).mono ?_; rintro e w' ⟨rfl, hb⟩; have HB2 : Hid (Below w.heap.size w w') := hb_step (by repeat (first | exact HB | refine hb_drew ?_ | refine hb_alloc ?_ _)) hb; clear hb)
              go_ret
              obtain rfl : q = false := by rw [← HQ.out, HN.out, Bool.and_false]
              exact ⟨rfl, HB2.out⟩
          · obtain rfl : k = l.length := by omega
            go_wp2
            go_ret
            obtain rfl : q = true := by rw [← HQ.out, HK.out, decide_eq_true HL.out]; rfl
            exact ⟨rfl, HB.out⟩
      · have hne : ((l.length : Int) != (r.length : Int)) = true := by simp; omega
        have HL := Lib.hid hlen
        clear hlen
        go_enter Tryd.func34, Tryd.ntmps34
        go_wp2
        go_ret
        obtain rfl : q = false := by rw [← HQ.out, decide_eq_false HL.out]; rfl
        exact ⟨rfl, HB.out⟩

theorem FSl.shape0 {w : World} {v : Value} {l : List FT} (h : FSl w v l) : ∃ a cap, v = .slice a l.length cap := by cases h; exact ⟨_, _, rfl⟩
set_option maxHeartbeats 8000000 in
set_option maxRecDepth 1000000 in
/-- tree.Equal, whatever the two programs. -/
theorem equal_r (a1 a2 : Option Addr) (n1 n2 k1 k2 : Nat) (a1' a2' : Option Addr) (n1' n2' k1' k2' : Nat) (p p' : PT) (w : World) (hp : PR w (.slice a1 n1 k1) (.slice a2 n2 k2) p) (hp' : PR w (.slice a1' n1' k1') (.slice a2' n2' k2') p') (q : Bool) (hq : PT.same p p' = q) :
    Calls Tryd.prog 18 #[.agg #[.slice a1 n1 k1, .slice a2 n2 k2], .agg #[.slice a1' n1' k1', .slice a2' n2' k2']] w fun e w' => e = .returned (.bool q) ∧ Below w.heap.size w w' := by
  subst hq
  unfold PT.same
  obtain ⟨q1, hq1⟩ : ∃ b, FT.sameL p.funcs p'.funcs = b := ⟨_, rfl⟩
  obtain ⟨q2, hq2⟩ : ∃ b, ST.sameL p.main p'.main = b := ⟨_, rfl⟩
  rw [hq1, hq2]
  have HP := Lib.hid hp
  have HP' := Lib.hid hp'
  have HQ1 := Lib.hid hq1
  have HQ2 := Lib.hid hq2
  clear hp hp' hq1 hq2
  have HB := hb_start w
  cases q1
  all_goals
    go_enter Tryd.func18, Tryd.ntmps18
    go_wp2_with (first
      | (go_at_call 34; refine (eqf_in w HP.out.1 _ _ _ HQ1.out _ (((Below.refl _ _).alloc (Nat.le_refl _) _).alloc (by simp) _) HP'.out.1).mono ?_; rintro e w1 ⟨rfl, hb⟩; have HB1 : Hid (Below w.heap.size w w1) := hb_step (by repeat (first | exact HB | refine hb_drew ?_ | refine hb_alloc ?_ _)) hb; have c2 := (hb.cell (p := ⟨w.heap.size, 1, none⟩) (by simp; omega)).trans (show _ = some (Value.slice a2 n2 k2) by simp); have d2 := (hb.cell (p := ⟨w.heap.size + 1, 1, none⟩) (by simp)).trans (show _ = some (Value.slice a2' n2' k2') by simp); clear hb)
      | (go_at_call 32; refine (eqs_in w HP.out.2 _ _ _ HQ2.out _ HB1.out HP'.out.2).mono ?_; rintro e w2 ⟨rfl, hb⟩; have HB2 : Hid (Below w.heap.size w w2) := hb_step HB1 hb; clear hb))
    go_ret
    first | exact ⟨by simp, HB2.out⟩ | exact ⟨by simp, HB1.out⟩
end Go.Proofs.YtplckmpamekloaaDoor
