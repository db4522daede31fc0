/- tree.same, tree.alike, tree.Equal. -/
import Derived.Test.YtplckmpamekloaaDoorTreeHead
namespace Go.Proofs.YtplckmpamekloaaDoor
open Go.RowKit Go.Sort
set_option linter.unusedVariables false

def allB (n : Nat) (p : Nat → Bool) : Bool := (List.range n).all p
theorem allB_next (n : Nat) (p : Nat → Bool) : allB (n + 1) p = (allB n p && p n) := by unfold allB; rw [List.range_succ, List.all_append]; simp
theorem allB_no (n k : Nat) (p : Nat → Bool) (hk : k < n) (h : p k = false) : allB n p = false := by
  unfold allB; rw [← Bool.not_eq_true, List.all_eq_true]; intro hh; have := hh k (List.mem_range.2 hk); rw [h] at this; cases this
theorem allB_cons (n : Nat) (p : Nat → Bool) : allB (n + 1) p = (p 0 && allB n (fun i => p (i + 1))) := by
  unfold allB; rw [List.range_succ_eq_map, List.all_cons, List.all_map]; rfl
theorem ET.sameL_eq (l : List ET) : ∀ r : List ET, ET.sameL l r = (decide (l.length = r.length) && allB l.length (fun i => ET.same (l.getD i default) (r.getD i default))) := by
  induction l with
  | nil => intro r; cases r <;> simp [ET.sameL, allB]
  | cons a l ih =>
    intro r
    cases r with
    | nil => simp [ET.sameL]
    | cons b r =>
      simp only [ET.sameL, List.length_cons]
      rw [allB_cons, ih r]
      have e : decide (l.length + 1 = r.length + 1) = decide (l.length = r.length) := by simp
      rw [e]
      simp only [List.getD_cons_zero, List.getD_cons_succ]
      cases decide (l.length = r.length) <;> simp
theorem ST.sameL_eq (l : List ST) : ∀ r : List ST, ST.sameL l r = (decide (l.length = r.length) && allB l.length (fun i => ST.same (l.getD i default) (r.getD i default))) := by
  induction l with
  | nil => intro r; cases r <;> simp [ST.sameL, allB]
  | cons a l ih =>
    intro r
    cases r with
    | nil => simp [ST.sameL]
    | cons b r =>
      simp only [ST.sameL, List.length_cons]
      rw [allB_cons, ih r]
      have e : decide (l.length + 1 = r.length + 1) = decide (l.length = r.length) := by simp
      rw [e]
      simp only [List.getD_cons_zero, List.getD_cons_succ]
      cases decide (l.length = r.length) <;> simp
/-- Rows of texts. -/
def eqS (l r : List ByteArray) : Bool := decide (l.length = r.length) && allB l.length (fun i => (l.getD i ByteArray.empty).toList == (r.getD i ByteArray.empty).toList)
def FT.same (a b : FT) : Bool := (a.name.toList == b.name.toList) && (eqS a.params b.params && ST.sameL a.body b.body)
def FT.sameL : List FT → List FT → Bool
  | [], [] => true
  | a :: l, b :: r => FT.same a b && FT.sameL l r
  | [], _ :: _ => false
  | _ :: _, [] => false
def PT.same (p q : PT) : Bool := FT.sameL p.funcs q.funcs && ST.sameL p.main q.main
theorem FT.sameL_eq (l : List FT) : ∀ r : List FT, FT.sameL l r = (decide (l.length = r.length) && allB l.length (fun i => FT.same (l.getD i default) (r.getD i default))) := by
  induction l with
  | nil => intro r; cases r <;> simp [FT.sameL, allB]
  | cons a l ih =>
    intro r
    cases r with
    | nil => simp [FT.sameL]
    | cons b r =>
      simp only [FT.sameL, List.length_cons]
      rw [allB_cons, ih r]
      have e : decide (l.length + 1 = r.length + 1) = decide (l.length = r.length) := by simp
      rw [e]
      simp only [List.getD_cons_zero, List.getD_cons_succ]
      cases decide (l.length = r.length) <;> simp

set_option maxHeartbeats 4000000 in
set_option maxRecDepth 1000000 in
theorem same_of (o n : Int) (s : ByteArray) (pa : Option Addr) (k pc : Nat) (o' n' : Int) (s' : ByteArray) (pa' : Option Addr) (k' pc' : Nat) (q : Bool) (w : World)
    (hE : ∀ W, Below w.heap.size w W → Calls Tryd.prog 51 #[.slice pa k pc, .slice pa' k' pc', .func (.func 52) #[] #[]] W fun e W' => e = .returned (.bool q) ∧ Below W.heap.size W W') :
    Calls Tryd.prog 52 #[.agg #[.int .i64 o, .int .i64 n, .string s, .slice pa k pc], .agg #[.int .i64 o', .int .i64 n', .string s', .slice pa' k' pc']] w fun e w' => e = .returned (.bool ((o == o') && ((n == n') && ((s.toList == s'.toList) && q)))) ∧ Below w.heap.size w w' := by
  have HE := Lib.hid hE
  clear hE
  have HB := hb_start w
  obtain ⟨b1, h1⟩ : ∃ b, (o == o') = b := ⟨_, rfl⟩
  obtain ⟨b2, h2⟩ : ∃ b, (n == n') = b := ⟨_, rfl⟩
  obtain ⟨b3, h3⟩ : ∃ b, (s.toList == s'.toList) = b := ⟨_, rfl⟩
  rw [h1, h2, h3]
  cases b1 <;> cases b2 <;> cases b3
  all_goals
    go_enter Tryd.func52, Tryd.ntmps52
    go_wp2_with (go_at_call 51; refine (HE.out _ (((Below.refl _ _).alloc (Nat.le_refl _) _).alloc (by simp) _)).mono ?_; rintro e w' ⟨rfl, hb⟩; have HB2 : Hid (Below w.heap.size w w') := hb_step (by repeat (first | exact HB | refine hb_drew ?_ | refine hb_alloc ?_ _)) hb; clear hb)
    go_ret
    first | exact ⟨by simp, HB2.out⟩ | exact ⟨by simp, (hb_alloc (hb_alloc HB _) _).out⟩

theorem same_v (o n : Int) (s : ByteArray) (pa : Option Addr) (k pc : Nat) (o' n' : Int) (s' : ByteArray) (pa' : Option Addr) (k' pc' : Nat) (q t : Bool) (w : World)
    (hE : ∀ W, Below w.heap.size w W → Calls Tryd.prog 51 #[.slice pa k pc, .slice pa' k' pc', .func (.func 52) #[] #[]] W fun e W' => e = .returned (.bool q) ∧ Below W.heap.size W W')
    (ht : ((o == o') && ((n == n') && ((s.toList == s'.toList) && q))) = t) :
    Calls Tryd.prog 52 #[.agg #[.int .i64 o, .int .i64 n, .string s, .slice pa k pc], .agg #[.int .i64 o', .int .i64 n', .string s', .slice pa' k' pc']] w fun e w' => e = .returned (.bool t) ∧ Below w.heap.size w w' :=
  ht ▸ same_of o n s pa k pc o' n' s' pa' k' pc' q w hE
theorem ESl.shape0 {w : World} {v : Value} {l : List ET} (h : ESl w v l) : ∃ a cap, v = .slice a l.length cap := by cases h; exact ⟨_, _, rfl⟩

set_option maxHeartbeats 4000000 in
set_option maxRecDepth 1000000 in
theorem eqe_in (w0 : World) {v : Value} {l : List ET} (h : ESl w0 v l) : ∀ (v' : Value) (r : List ET) (q : Bool) (hq : ET.sameL l r = q) (w : World) (hw : Below w0.heap.size w0 w) (h' : ESl w0 v' r),
    Calls Tryd.prog 51 #[v, v', .func (.func 52) #[] #[]] w fun e w' => e = .returned (.bool q) ∧ Below w.heap.size w w' := by
  induction h with
  | mk a b off cap l f ha hc hm hcell hsub ih =>
    intro v' r q hq w hw h'
    cases h' with
    | mk a' b' off' cap' r f' ha' hc' hm' hcell' hsub' =>
      have HA := Lib.hid ha
      have HA' := Lib.hid ha'
      have HC := Lib.hid hcell
      have HC' := Lib.hid hcell'
      have HIH := Lib.hid ih
      have HSub := Lib.hid hsub
      have HSub' := Lib.hid hsub'
      have HW := Lib.hid hw
      have hm1 : cap ≤ 9223372036854775807 := hm
      have hm1' : cap' ≤ 9223372036854775807 := hm'
      rw [ET.sameL_eq] at hq
      have HQ := Lib.hid hq
      clear ha ha' hcell hcell' ih hsub hsub' hw hm hm' hq
      have HB := hb_start w
      by_cases hlen : l.length = r.length
      · have hne : ((l.length : Int) != (r.length : Int)) = false := by rw [hlen]; simp
        have HL := Lib.hid hlen
        clear hlen
        go_enter Tryd.func51, Tryd.ntmps51
        go_wp2
        go_loopw [17] (fun i wr => ∃ k : Nat, i = .int .i64 k ∧ k ≤ l.length ∧ Hid (Below w.heap.size w wr) ∧ Hid (allB k (fun i => ET.same (l.getD i default) (r.getD i default)) = true)) (fun i _ => l.length - (intOf i).toNat)
        case atStart => exact ⟨0, rfl, by omega, HB, by show _ = _; rfl⟩
        case round =>
          clear HB hne
          obtain ⟨k, rfl, hk, HB, HK⟩ := hrel
          by_cases hlt : k < l.length
          · have hlt' : k < r.length := by have := HL.out; omega
            obtain rfl := HA.out (by omega)
            obtain rfl := HA'.out (by omega)
            obtain ⟨e0, e1, e2, e3⟩ := HC.out k hlt
            obtain ⟨e0', e1', e2', e3'⟩ := HC'.out k hlt'
            have WB : Below w0.heap.size w0 wr := HW.out.trans (HB.out.mono HW.out.size)
            have hz : b < w0.heap.size := lt_of_cell e0
            have hz' : b' < w0.heap.size := lt_of_cell e0'
            replace e0 := (WB.cell (p := ⟨b, off + k * 4, none⟩) hz).trans e0
            replace e1 := (WB.cell (p := ⟨b, off + k * 4 + 1, none⟩) hz).trans e1
            replace e2 := (WB.cell (p := ⟨b, off + k * 4 + 2, none⟩) hz).trans e2
            replace e3 := (WB.cell (p := ⟨b, off + k * 4 + 3, none⟩) hz).trans e3
            replace e0' := (WB.cell (p := ⟨b', off' + k * 4, none⟩) hz').trans e0'
            replace e1' := (WB.cell (p := ⟨b', off' + k * 4 + 1, none⟩) hz').trans e1'
            replace e2' := (WB.cell (p := ⟨b', off' + k * 4 + 2, none⟩) hz').trans e2'
            replace e3' := (WB.cell (p := ⟨b', off' + k * 4 + 3, none⟩) hz').trans e3'
            have hX : allB (k + 1) (fun i => ET.same (l.getD i default) (r.getD i default)) = (allB k (fun i => ET.same (l.getD i default) (r.getD i default)) && ET.same (l.getD k default) (r.getD k default)) := allB_next k (fun i => ET.same (l.getD i default) (r.getD i default))
            have hN : ET.same (l.getD k default) (r.getD k default) = false → allB l.length (fun i => ET.same (l.getD i default) (r.getD i default)) = false := allB_no l.length k (fun i => ET.same (l.getD i default) (r.getD i default)) hlt
            have HI := Lib.hid (HIH.out k hlt)
            have hsh := (HSub.out k hlt).shape0
            have hsh' := (HSub'.out k hlt').shape0
            have HS' := Lib.hid (HSub'.out k hlt')
            generalize l.getD k default = x at e0 e1 e2 hX hN HI hsh
            generalize r.getD k default = y at e0' e1' e2' hX hN HS' hsh'
            generalize f k = pv at e3 HI hsh
            generalize f' k = pv' at e3' HS' hsh'
            obtain ⟨o, n, s, ps⟩ := x
            obtain ⟨o', n', s', ps'⟩ := y
            simp only [ET.op, ET.num, ET.name, ET.parts] at e0 e1 e2 e0' e1' e2' HI HS' hsh hsh'
            obtain ⟨pa, pc, rfl⟩ := hsh
            obtain ⟨pa', pc', rfl⟩ := hsh'
            obtain ⟨t, ht⟩ : ∃ t, ET.same (.mk o n s ps) (.mk o' n' s' ps') = t := ⟨_, rfl⟩
            rw [ht] at hX hN
            have HT := Lib.hid ht
            have HX := Lib.hid hX
            have HN := Lib.hid hN
            have hzw : b' < wr.heap.size := Nat.lt_of_lt_of_le hz' WB.size
            have HWB := Lib.hid WB
            clear ht hX hN WB
            cases t with
            | true =>
              go_wp2_with (go_at_call 52; refine (same_v o n s pa ps.length pc o' n' s' pa' ps'.length pc' (ET.sameL ps ps') _ _ (fun W hW => HI.out _ ps' _ rfl W (HWB.out.trans ((((Below.refl _ _).alloc (Nat.le_refl _) _).alloc (by simp) _).trans (hW.mono (by simp; omega)) |>.mono HWB.out.size)) HS'.out) HT.out).mono ?_; rintro e w' ⟨rfl, hb⟩; have HB2 : Hid (Below w.heap.size w w') := hb_step (by repeat (first | exact HB | refine hb_drew ?_ | refine hb_alloc ?_ _)) hb; clear hb)
              go_roundw
              case rel => exact ⟨k + 1, by go_num, by omega, HB2, by show _ = _; rw [HX.out, HK.out]; rfl⟩
              case measure => simp [intOf]; omega
            | false =>
              replace HN := Lib.hid (HN.out rfl)
              go_wp2_with (go_at_call 52; refine (same_v o n s pa ps.length pc o' n' s' pa' ps'.length pc' (ET.sameL ps ps') _ _ (fun W hW => HI.out _ ps' _ rfl W (HWB.out.trans ((((Below.refl _ _).alloc (Nat.le_refl _) _).alloc (by simp) _).trans (hW.mono (by simp; omega)) |>.mono HWB.out.size)) HS'.out) HT.out).mono ?_; rintro e w' ⟨rfl, hb⟩; have HB2 : Hid (Below w.heap.size w w') := hb_step (by repeat (first | exact HB | refine hb_drew ?_ | refine hb_alloc ?_ _)) hb; clear hb)
              go_ret
              obtain rfl : q = false := by rw [← HQ.out, HN.out, Bool.and_false]
              exact ⟨rfl, HB2.out⟩
          · obtain rfl : k = l.length := by omega
            go_wp2
            go_ret
            obtain rfl : q = true := by rw [← HQ.out, HK.out, decide_eq_true HL.out]; rfl
            exact ⟨rfl, HB.out⟩
      · have hne : ((l.length : Int) != (r.length : Int)) = true := by simp; omega
        have HL := Lib.hid hlen
        clear hlen
        go_enter Tryd.func51, Tryd.ntmps51
        go_wp2
        go_ret
        obtain rfl : q = false := by rw [← HQ.out, decide_eq_false HL.out]; rfl
        exact ⟨rfl, HB.out⟩
end Go.Proofs.YtplckmpamekloaaDoor
