/- tree.alike, and rows of statements. -/
import Derived.Test.YtplckmpamekloaaDoorTreeSame
namespace Go.Proofs.YtplckmpamekloaaDoor
open Go.RowKit Go.Sort
set_option linter.unusedVariables false

theorem SSl.shape0 {w : World} {v : Value} {l : List ST} (h : SSl w v l) : ∃ a cap, v = .slice a l.length cap := by cases h; exact ⟨_, _, rfl⟩
theorem TSl.shape0 {w : World} {v : Value} {l : List ByteArray} (h : TSl w v l) : ∃ a cap, v = .slice a l.length cap := by cases h; exact ⟨_, _, rfl⟩
/-- A contract of a comparison of two rows. -/
def Cmp (f g : FuncId) (v v' : Value) (q : Bool) (w : World) : Prop := ∀ W, Below w.heap.size w W → Calls Tryd.prog f #[v, v', .func (.func g) #[] #[]] W fun e W' => e = .returned (.bool q) ∧ Below W.heap.size W W'

set_option maxHeartbeats 8000000 in
set_option maxRecDepth 1000000 in
theorem alike_v (o n : Int) (s : ByteArray) (pa : Option Addr) (k pc : Nat) (pb : Option Addr) (kb cb : Nat) (pe : Option Addr) (ke ce : Nat) (o' n' : Int) (s' : ByteArray) (pa' : Option Addr) (k' pc' : Nat) (pb' : Option Addr) (kb' cb' : Nat) (pe' : Option Addr) (ke' ce' : Nat) (q1 q2 q3 t : Bool) (w : World)
    (hE1 : Cmp 51 52 (.slice pa k pc) (.slice pa' k' pc') q1 w)
    (hE2 : Cmp 32 33 (.slice pb kb cb) (.slice pb' kb' cb') q2 w)
    (hE3 : Cmp 32 33 (.slice pe ke ce) (.slice pe' ke' ce') q3 w)
    (ht : ((o == o') && ((s.toList == s'.toList) && ((n == n') && (q1 && (q2 && q3))))) = t) :
    Calls Tryd.prog 33 #[.agg #[.int .i64 o, .string s, .int .i64 n, .slice pa k pc, .slice pb kb cb, .slice pe ke ce], .agg #[.int .i64 o', .string s', .int .i64 n', .slice pa' k' pc', .slice pb' kb' cb', .slice pe' ke' ce']] w fun e w' => e = .returned (.bool t) ∧ Below w.heap.size w w' := by
  subst ht
  have HE1 := Lib.hid hE1
  have HE2 := Lib.hid hE2
  have HE3 := Lib.hid hE3
  clear hE1 hE2 hE3
  have HB := hb_start w
  obtain ⟨b1, h1⟩ : ∃ b, (o == o') = b := ⟨_, rfl⟩
  obtain ⟨b2, h2⟩ : ∃ b, (s.toList == s'.toList) = b := ⟨_, rfl⟩
  obtain ⟨b3, h3⟩ : ∃ b, (n == n') = b := ⟨_, rfl⟩
  rw [h1, h2, h3]
  have hc : b1 = false ∨ (b1 = true ∧ (b2 = false ∨ (b2 = true ∧ (b3 = false ∨ (b3 = true ∧ (q1 = false ∨ (q1 = true ∧ (q2 = false ∨ q2 = true)))))))) := by
    cases b1 <;> cases b2 <;> cases b3 <;> cases q1 <;> cases q2 <;> simp
  rcases hc with rfl | ⟨rfl, rfl | ⟨rfl, rfl | ⟨rfl, rfl | ⟨rfl, rfl | rfl⟩⟩⟩⟩
  all_goals
    go_enter Tryd.func33, Tryd.ntmps33
    go_wp2_with (first
      | (go_at_call 51; refine (HE1.out _ (((Below.refl _ _).alloc (Nat.le_refl _) _).alloc (by simp) _)).mono ?_; rintro e w1 ⟨rfl, hb⟩; have HB1 : Hid (Below w.heap.size w w1) := hb_step (by repeat (first | exact HB | refine hb_drew ?_ | refine hb_alloc ?_ _)) hb; have c4 := (hb.cell (p := ⟨w.heap.size, 4, none⟩) (by simp; omega)).trans (show _ = some (Value.slice pb kb cb) by simp); have c5 := (hb.cell (p := ⟨w.heap.size, 5, none⟩) (by simp; omega)).trans (show _ = some (Value.slice pe ke ce) by simp); have d4 := (hb.cell (p := ⟨w.heap.size + 1, 4, none⟩) (by simp)).trans (show _ = some (Value.slice pb' kb' cb') by simp); have d5 := (hb.cell (p := ⟨w.heap.size + 1, 5, none⟩) (by simp)).trans (show _ = some (Value.slice pe' ke' ce') by simp); clear hb)
      | (go_at_call 32; refine (HE2.out _ HB1.out).mono ?_; clear HE2; rintro e w2 ⟨rfl, hb⟩; have HB2 : Hid (Below w.heap.size w w2) := hb_step HB1 hb; have c5' := (hb.cell (p := ⟨w.heap.size, 5, none⟩) (lt_of_cell c5)).trans c5; have d5' := (hb.cell (p := ⟨w.heap.size + 1, 5, none⟩) (lt_of_cell d5)).trans d5; clear hb)
      | (go_at_call 32; refine (HE3.out _ HB2.out).mono ?_; clear HE3; rintro e w3 ⟨rfl, hb⟩; have HB3 : Hid (Below w.heap.size w w3) := hb_step HB2 hb; clear hb))
    go_ret
    first | exact ⟨by simp, HB3.out⟩ | exact ⟨by simp, HB2.out⟩ | exact ⟨by simp, HB1.out⟩ | exact ⟨by simp, (hb_alloc (hb_alloc HB _) _).out⟩

set_option maxHeartbeats 4000000 in
set_option maxRecDepth 1000000 in
theorem eqs_in (w0 : World) {v : Value} {l : List ST} (h : SSl w0 v l) : ∀ (v' : Value) (r : List ST) (q : Bool) (hq : ST.sameL l r = q) (w : World) (hw : Below w0.heap.size w0 w) (hh' : SSl w0 v' r),
    Calls Tryd.prog 32 #[v, v', .func (.func 33) #[] #[]] w fun e w' => e = .returned (.bool q) ∧ Below w.heap.size w w' := by
  induction h with
  | mk a b off cap l f g h ha hc hm hcell hsub hbod hels ihb ihe =>
    intro v' r q hq w hw hh'
    cases hh' with
    | mk a' b' off' cap' r f' g' h' ha' hc' hm' hcell' hsub' hbod' hels' =>
      have HA := Lib.hid ha
      have HA' := Lib.hid ha'
      have HC := Lib.hid hcell
      have HC' := Lib.hid hcell'
      have HIB := Lib.hid ihb
      have HIE := Lib.hid ihe
      have HBod := Lib.hid hbod
      have HEls := Lib.hid hels
      have HBod' := Lib.hid hbod'
      have HEls' := Lib.hid hels'
      have HSub := Lib.hid hsub
      have HSub' := Lib.hid hsub'
      have HW := Lib.hid hw
      have hm1 : cap ≤ 9223372036854775807 := hm
      have hm1' : cap' ≤ 9223372036854775807 := hm'
      rw [ST.sameL_eq] at hq
      have HQ := Lib.hid hq
      clear ha ha' hcell hcell' ihb ihe hbod hels hbod' hels' hsub hsub' hw hm hm' hq
      have HB := hb_start w
      by_cases hlen : l.length = r.length
      · have hne : ((l.length : Int) != (r.length : Int)) = false := by rw [hlen]; simp
        have HL := Lib.hid hlen
        clear hlen
        go_enter Tryd.func32, Tryd.ntmps32
        go_wp2
        go_loopw [17] (fun i wr => ∃ k : Nat, i = .int .i64 k ∧ k ≤ l.length ∧ Hid (Below w.heap.size w wr) ∧ Hid (allB k (fun i => ST.same (l.getD i default) (r.getD i default)) = true)) (fun i _ => l.length - (intOf i).toNat)
        case atStart => exact ⟨0, rfl, by omega, HB, by show _ = _; rfl⟩
        case round =>
          clear HB hne
          obtain ⟨k, rfl, hk, HB, HK⟩ := hrel
          by_cases hlt : k < l.length
          · have hlt' : k < r.length := by have := HL.out; omega
            obtain rfl := HA.out (by omega)
            obtain rfl := HA'.out (by omega)
            obtain ⟨e0, e1, e2, e3, e4, e5⟩ := HC.out k hlt
            obtain ⟨e0', e1', e2', e3', e4', e5'⟩ := HC'.out k hlt'
            have WB : Below w0.heap.size w0 wr := HW.out.trans (HB.out.mono HW.out.size)
            have hz : b < w0.heap.size := lt_of_cell e0
            have hz' : b' < w0.heap.size := lt_of_cell e0'
            replace e0 := (WB.cell (p := ⟨b, off + k * 6, none⟩) hz).trans e0
            replace e1 := (WB.cell (p := ⟨b, off + k * 6 + 1, none⟩) hz).trans e1
            replace e2 := (WB.cell (p := ⟨b, off + k * 6 + 2, none⟩) hz).trans e2
            replace e3 := (WB.cell (p := ⟨b, off + k * 6 + 3, none⟩) hz).trans e3
            replace e4 := (WB.cell (p := ⟨b, off + k * 6 + 4, none⟩) hz).trans e4
            replace e5 := (WB.cell (p := ⟨b, off + k * 6 + 5, none⟩) hz).trans e5
            replace e0' := (WB.cell (p := ⟨b', off' + k * 6, none⟩) hz').trans e0'
            replace e1' := (WB.cell (p := ⟨b', off' + k * 6 + 1, none⟩) hz').trans e1'
            replace e2' := (WB.cell (p := ⟨b', off' + k * 6 + 2, none⟩) hz').trans e2'
            replace e3' := (WB.cell (p := ⟨b', off' + k * 6 + 3, none⟩) hz').trans e3'
            replace e4' := (WB.cell (p := ⟨b', off' + k * 6 + 4, none⟩) hz').trans e4'
            replace e5' := (WB.cell (p := ⟨b', off' + k * 6 + 5, none⟩) hz').trans e5'
            have hX : allB (k + 1) (fun i => ST.same (l.getD i default) (r.getD i default)) = (allB k (fun i => ST.same (l.getD i default) (r.getD i default)) && ST.same (l.getD k default) (r.getD k default)) := allB_next k (fun i => ST.same (l.getD i default) (r.getD i default))
            have hN : ST.same (l.getD k default) (r.getD k default) = false → allB l.length (fun i => ST.same (l.getD i default) (r.getD i default)) = false := allB_no l.length k (fun i => ST.same (l.getD i default) (r.getD i default)) hlt
            have HI1 := Lib.hid (eqe_in w0 (HSub.out k hlt))
            have HI2 := Lib.hid (HIB.out k hlt)
            have HI3 := Lib.hid (HIE.out k hlt)
            have hsh := (HSub.out k hlt).shape0
            have hsh' := (HSub'.out k hlt').shape0
            have hsb := (HBod.out k hlt).shape0
            have hsb' := (HBod'.out k hlt').shape0
            have hse := (HEls.out k hlt).shape0
            have hse' := (HEls'.out k hlt').shape0
            have HS1 := Lib.hid (HSub'.out k hlt')
            have HS2 := Lib.hid (HBod'.out k hlt')
            have HS3 := Lib.hid (HEls'.out k hlt')
            generalize l.getD k default = x at e0 e1 e2 hX hN HI1 HI2 HI3 hsh hsb hse
            generalize r.getD k default = y at e0' e1' e2' hX hN HS1 HS2 HS3 hsh' hsb' hse'
            generalize f k = pv at e3 HI1 hsh
            generalize g k = pv at e4 HI2 hsb
            generalize h k = pv at e5 HI3 hse
            generalize f' k = pv' at e3' HS1 hsh'
            generalize g' k = pv' at e4' HS2 hsb'
            generalize h' k = pv' at e5' HS3 hse'
            obtain ⟨o, n, s, ps, bs, es⟩ := x
            obtain ⟨o', n', s', ps', bs', es'⟩ := y
            simp only [ST.op, ST.num, ST.name, ST.parts, ST.body, ST.els] at e0 e1 e2 e0' e1' e2' HI1 HI2 HI3 HS1 HS2 HS3 hsh hsb hse hsh' hsb' hse'
            obtain ⟨pa, pc, rfl⟩ := hsh
            obtain ⟨pa', pc', rfl⟩ := hsh'
            obtain ⟨pb, cb, rfl⟩ := hsb
            obtain ⟨pb', cb', rfl⟩ := hsb'
            obtain ⟨pe, ce, rfl⟩ := hse
            obtain ⟨pe', ce', rfl⟩ := hse'
            obtain ⟨t, ht⟩ : ∃ t, ST.same (.mk o n s ps bs es) (.mk o' n' s' ps' bs' es') = t := ⟨_, rfl⟩
            rw [ht] at hX hN
            have HT := Lib.hid ht
            have HX := Lib.hid hX
            have HN := Lib.hid hN
            have hzw : b' < wr.heap.size := Nat.lt_of_lt_of_le hz' WB.size
            have HWB := Lib.hid WB
            clear ht hX hN WB
            cases t with
            | true =>
              go_wp2_with (go_at_call 33; refine (alike_v o n s pa ps.length pc pb bs.length cb pe es.length ce o' n' s' pa' ps'.length pc' pb' bs'.length cb' pe' es'.length ce' (ET.sameL ps ps') (ST.sameL bs bs') (ST.sameL es es') _ _ (fun W hW => HI1.out _ ps' _ rfl W (HWB.out.trans ((((Below.refl _ _).alloc (Nat.le_refl _) _).alloc (by simp) _).trans (hW.mono (by simp; omega)) |>.mono HWB.out.size)) HS1.out) (fun W hW => HI2.out _ bs' _ rfl W (HWB.out.trans ((((Below.refl _ _).alloc (Nat.le_refl _) _).alloc (by simp) _).trans (hW.mono (by simp; omega)) |>.mono HWB.out.size)) HS2.out) (fun W hW => HI3.out _ es' _ rfl W (HWB.out.trans ((((Below.refl _ _).alloc (Nat.le_refl _) _).alloc (by simp) _).trans (hW.mono (by simp; omega)) |>.mono HWB.out.size)) HS3.out) HT.out).mono ?_; rintro e w' ⟨rfl, hb⟩; have HB2 : Hid (Below w.heap.size w w') := hb_step (by repeat (first | exact HB | refine hb_drew ?_ | refine hb_alloc ?_ _)) hb; clear hb)
              go_roundw
              case rel => exact ⟨k + 1, by go_num, by omega, HB2, by show _ = _; rw [HX.out, HK.out]; rfl⟩
              case measure => simp [intOf]; omega
            | false =>
              replace HN := Lib.hid (HN.out rfl)
              go_wp2_with (go_at_call 33; refine (alike_v o n s pa ps.length pc pb bs.length cb pe es.length ce o' n' s' pa' ps'.length pc' pb' bs'.length cb' pe' es'.length ce' (ET.sameL ps ps') (ST.sameL bs bs') (ST.sameL es es') _ _ (fun W hW => HI1.out _ ps' _ rfl W (HWB.out.trans ((((Below.refl _ _).alloc (Nat.le_refl _) _).alloc (by simp) _).trans (hW.mono (by simp; omega)) |>.mono HWB.out.size)) HS1.out) (fun W hW => HI2.out _ bs' _ rfl W (HWB.out.trans ((((Below.refl _ _).alloc (Nat.le_refl _) _).alloc (by simp) _).trans (hW.mono (by simp; omega)) |>.mono HWB.out.size)) HS2.out) (fun W hW => HI3.out _ es' _ rfl W (HWB.out.trans ((((Below.refl _ _).alloc (Nat.le_refl _) _).alloc (by simp) _).trans (hW.mono (by simp; omega)) |>.mono HWB.out.size)) HS3.out) HT.out).mono ?_; rintro e w' ⟨rfl, hb⟩; have HB2 : Hid (Below w.heap.size w w') := hb_step (by repeat (first | exact HB | refine hb_drew ?_ | refine hb_alloc ?_ _)) hb; clear hb)
              go_ret
              obtain rfl : q = false := by rw [← HQ.out, HN.out, Bool.and_false]
              exact ⟨rfl, HB2.out⟩
          · obtain rfl : k = l.length := by omega
            go_wp2
            go_ret
            obtain rfl : q = true := by rw [← HQ.out, HK.out, decide_eq_true HL.out]; rfl
            exact ⟨rfl, HB.out⟩
      · have hne : ((l.length : Int) != (r.length : Int)) = true := by simp; omega
        have HL := Lib.hid hlen
        clear hlen
        go_enter Tryd.func32, Tryd.ntmps32
        go_wp2
        go_ret
        obtain rfl : q = false := by rw [← HQ.out, decide_eq_false HL.out]; rfl
        exact ⟨rfl, HB.out⟩
end Go.Proofs.YtplckmpamekloaaDoor
