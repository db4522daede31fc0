/- verify.Code: is code right? -/
import Derived.Test.YthfgagljplabpaaDoorVerifyRight
namespace Go.Proofs.YthfgagljplabpaaDoor.V
open Go.RowKit Go.Sort
set_option linter.unusedVariables false

set_option maxHeartbeats 1000000 in
set_option maxRecDepth 1000000 in
theorem code1_r (fs : List VF) (s : ByteArray) (pn vn an : Int) (l : List VI) (a : Option Addr) (cap : Nat) (a1 : Option Addr) (n1 c1 : Nat) (cb : Nat) (b : Bool) (hb : (!rightV fs ⟨s, pn, vn, an, l⟩) = b) (w : World) (ht : Tab w) (hfs : VSl w (.slice a1 n1 c1) fs) (hl : ISl w (.slice a l.length cap) l)
    (hc : w.cell? ⟨cb, 0, none⟩ = some (.slice a1 n1 c1)) :
    Calls Tryd.prog 13 #[.agg #[.string s, .int .i64 pn, .int .i64 vn, .int .i64 an, .slice a l.length cap], .pointer (some ⟨cb, 0, none⟩)] w fun e w' => e = .returned (.bool b) ∧ Below w.heap.size w w' := by
  obtain ⟨i, hi⟩ : ∃ i, rightV fs ⟨s, pn, vn, an, l⟩ = i := ⟨_, rfl⟩
  rw [hi] at hb
  subst hb
  have HI := Lib.hid hi
  have HT := Lib.hid ht
  have HF := Lib.hid hfs
  have HL := Lib.hid hl
  have hlt := lt_of_cell hc
  clear hi ht hfs hl
  cases i
  all_goals
    go_enter Tryd.func13, Tryd.ntmps13
    go_wp2_with (go_at_call 14; refine (right_r fs ⟨s, pn, vn, an, l⟩ _ _ _ (HT.out.below ((Below.refl _ _).alloc (Nat.le_refl _) _)) (HF.out.stay ((Below.refl _ _).alloc (Nat.le_refl _) _)) (HL.out.stay ((Below.refl _ _).alloc (Nat.le_refl _) _)) _ HI.out).mono ?_; rintro e w' ⟨rfl, hb⟩; have HB2 := Lib.hid (below_of_alloc hb); clear hb)
    go_ret
    exact ⟨rfl, HB2.out⟩
theorem take_next {α : Type} (l : List α) (z : α) (k : Nat) (h : k < l.length) : l.take (k + 1) = l.take k ++ [l.getD k z] := by
  rw [List.take_succ_eq_append_getElem h, List.getD_eq_getElem?_getD, List.getElem?_eq_getElem h]; rfl
theorem any_take {α : Type} (l : List α) (z : α) (p : α → Bool) (k : Nat) (h : k < l.length) : (l.take (k + 1)).any p = ((l.take k).any p || p (l.getD k z)) := by
  rw [take_next l z k h, List.any_append]; simp
theorem any_at {α : Type} (l : List α) (z : α) (p : α → Bool) (k : Nat) (h : k < l.length) (hp : p (l.getD k z) = true) : l.any p = true := by
  refine List.any_eq_true.2 ⟨_, ?_, hp⟩
  rw [List.getD_eq_getElem?_getD, List.getElem?_eq_getElem h]; exact List.getElem_mem _

set_option maxHeartbeats 2000000 in
set_option maxRecDepth 1000000 in
theorem idx_r (gs : List VF) (a1 : Option Addr) (n1 c1 : Nat) (cb : Nat) (v : Value) (l : List VF) (q : Bool) (hq : l.any (fun f => !rightV gs f) = q) (w : World) (ht : Tab w) (hgs : VSl w (.slice a1 n1 c1) gs) (hc : w.cell? ⟨cb, 0, none⟩ = some (.slice a1 n1 c1)) (h : VSl w v l) :
    Calls Tryd.prog 24 #[v, .func (.func 13) #[] #[.pointer (some ⟨cb, 0, none⟩)]] w fun e w' => (∃ r : Int, e = .returned (.int .i64 r) ∧ decide (0 ≤ r) = q ∧ -1 ≤ r ∧ r ≤ 9223372036854775807) ∧ Below w.heap.size w w' := by
  cases h with
  | mk a b off cap l f ha hcc hm hcell hp =>
    have HA := Lib.hid ha
    have HC := Lib.hid hcell
    have HQ := Lib.hid hq
    have HP := Lib.hid hp
    have HT := Lib.hid ht
    have HG := Lib.hid hgs
    have HCB := Lib.hid hc
    have hm' : cap ≤ 9223372036854775807 := hm
    clear ha hcell hq hm hp ht hgs hc
    have HB := hb_start w
    go_enter Tryd.func24, Tryd.ntmps24
    go_wp2
    go_loopw [8] (fun i wr => ∃ k : Nat, i = .int .i64 k ∧ k ≤ l.length ∧ Hid (Below w.heap.size w wr) ∧ Hid ((l.take k).any (fun f => !rightV gs f) = false)) (fun i _ => l.length - (intOf i).toNat)
    case atStart => exact ⟨0, rfl, by omega, HB, by show _ = _; simp⟩
    case round =>
      clear HB
      obtain ⟨k, rfl, hk, HB, HK⟩ := hrel
      by_cases hlt : k < l.length
      · obtain rfl := HA.out (by omega)
        obtain ⟨e0, e1, e2, e3, e4⟩ := HC.out k hlt
        have hz : b < w.heap.size := lt_of_cell e0
        replace e0 := (HB.out.cell (p := ⟨b, off + k * 5, none⟩) hz).trans e0
        replace e1 := (HB.out.cell (p := ⟨b, off + k * 5 + 1, none⟩) hz).trans e1
        replace e2 := (HB.out.cell (p := ⟨b, off + k * 5 + 2, none⟩) hz).trans e2
        replace e3 := (HB.out.cell (p := ⟨b, off + k * 5 + 3, none⟩) hz).trans e3
        replace e4 := (HB.out.cell (p := ⟨b, off + k * 5 + 4, none⟩) hz).trans e4
        have HPk := Lib.hid (HP.out k hlt)
        have hsh := (HP.out k hlt).shape
        have HT2 := Lib.hid (any_take l default (fun f => !rightV gs f) k hlt)
        have HAT := Lib.hid (any_at l default (fun f => !rightV gs f) k hlt)
        have hcb := (HB.out.cell (p := ⟨cb, 0, none⟩) (lt_of_cell HCB.out)).trans HCB.out
        generalize l.getD k default = x at e0 e1 e2 e3 HT2 HAT HPk hsh
        generalize f k = pv at e4 HPk hsh
        obtain ⟨s, pn, vn, an, is⟩ := x
        dsimp only at e0 e1 e2 e3 HPk hsh
        obtain ⟨pa, pc, rfl⟩ := hsh
        obtain ⟨t, ht⟩ : ∃ t, (!rightV gs ⟨s, pn, vn, an, is⟩) = t := ⟨_, rfl⟩
        have HX := Lib.hid ht
        have HCB2 := Lib.hid hcb
        clear ht hcb
        cases t with
        | true =>
          go_wp2_with (go_at_call 13; refine (code1_r gs s pn vn an is pa pc a1 n1 c1 cb _ HX.out _ (HT.out.below HB.out) (HG.out.stay HB.out) (HPk.out.stay HB.out) HCB2.out).mono ?_; rintro e w' ⟨rfl, hb⟩; have HB2 : Hid (Below w.heap.size w w') := hb_step HB hb; clear hb)
          go_ret
          exact ⟨⟨_, rfl, by rw [← HQ.out, HAT.out HX.out]; exact decide_eq_true (by omega), by omega, by omega⟩, HB2.out⟩
        | false =>
          go_wp2_with (go_at_call 13; refine (code1_r gs s pn vn an is pa pc a1 n1 c1 cb _ HX.out _ (HT.out.below HB.out) (HG.out.stay HB.out) (HPk.out.stay HB.out) HCB2.out).mono ?_; rintro e w' ⟨rfl, hb⟩; have HB2 : Hid (Below w.heap.size w w') := hb_step HB hb; clear hb)
          go_roundw
          case rel => exact ⟨k + 1, by go_num, by omega, HB2, by show _ = _; rw [HT2.out, HK.out, HX.out]; rfl⟩
          case measure => simp [intOf]; omega
      · obtain rfl : k = l.length := by omega
        go_wp2
        go_ret
        have := HK.out
        rw [List.take_length] at this
        exact ⟨⟨-1, rfl, by rw [← HQ.out, this]; rfl, by omega, by omega⟩, HB.out⟩

set_option maxHeartbeats 1000000 in
set_option maxRecDepth 1000000 in
theorem cont_r (gs : List VF) (a1 : Option Addr) (n1 c1 : Nat) (cb : Nat) (q : Bool) (hq : gs.any (fun f => !rightV gs f) = q) (w : World) (ht : Tab w) (hgs : VSl w (.slice a1 n1 c1) gs) (hc : w.cell? ⟨cb, 0, none⟩ = some (.slice a1 n1 c1)) :
    Calls Tryd.prog 16 #[.slice a1 n1 c1, .func (.func 13) #[] #[.pointer (some ⟨cb, 0, none⟩)]] w fun e w' => e = .returned (.bool q) ∧ Below w.heap.size w w' := by
  have HT := Lib.hid ht
  have HG := Lib.hid hgs
  have HCB := Lib.hid hc
  have HQ := Lib.hid hq
  clear ht hgs hc hq
  have HB := hb_start w
  cases q
  all_goals
    go_enter Tryd.func16, Tryd.ntmps16
    go_wp2_with (go_at_call 24; refine (idx_r gs a1 n1 c1 cb _ gs _ HQ.out _ HT.out HG.out HCB.out HG.out).mono ?_; rintro e w' ⟨⟨r, rfl, hr, hr0, hr1⟩, hb⟩; have HB2 : Hid (Below w.heap.size w w') := hb_step HB hb; clear hb)
    go_ret
    exact ⟨rfl, HB2.out⟩

set_option maxHeartbeats 4000000 in
set_option maxRecDepth 1000000 in
theorem code_r (fs : List VF) (a1 : Option Addr) (n1 c1 : Nat) (w : World) (ht : Tab w) (hgs : VSl w (.slice a1 n1 c1) fs) (b : Bool) (hb : codeV fs = b) :
    Calls Tryd.prog 8 #[.agg #[.slice a1 n1 c1]] w fun e w' => e = .returned (.int .i64 (if b then 0 else 6)) ∧ Below w.heap.size w w' := by
  subst hb
  unfold codeV
  obtain ⟨bf, of, haf, rfl, hcf, hmf, hpf⟩ := VSl.at_ hgs
  obtain ⟨q1, h1⟩ : ∃ q, inB fs.length 1 34 = q := ⟨_, rfl⟩
  obtain ⟨q3, h3⟩ : ∃ q, fs.any (fun f => !rightV fs f) = q := ⟨_, rfl⟩
  rw [h1, h3]
  have H1 := Lib.hid h1
  have H3 := Lib.hid h3
  have HT := Lib.hid ht
  have HG := Lib.hid hgs
  have hm' : c1 ≤ 9223372036854775807 := hmf
  have HB := hb_start w
  cases q1 with
  | false =>
    simp only [Bool.false_and]
    clear h1 h3 ht hgs haf hpf hmf
    go_enter Tryd.func8, Tryd.ntmps8
    go_wp2_with (go_at_call 15; (with_reducible refine (in_r fs.length 1 34 _ H1.out _).mono ?_); rintro e w' ⟨rfl, rfl⟩)
    go_ret
    exact ⟨rfl, (Below.refl _ _).alloc (Nat.le_refl _) _⟩
  | true =>
    have hpos : 0 < fs.length := by unfold inB at h1; simp at h1; omega
    have hposI : (0 : Int) < fs.length := by omega
    obtain rfl := haf hpos
    have e1 := hpf 0 hpos
    have hz := lt_of_cell e1
    simp only [Nat.zero_mul, Nat.add_zero] at e1
    generalize (fs.getD 0 default).params = pv at e1
    clear h1 h3 ht hgs haf hpf hmf
    by_cases hp : pv = 0
    · subst hp
      cases q3
      all_goals
        go_enter Tryd.func8, Tryd.ntmps8
        go_wp2_with (first | (go_at_call 15; (with_reducible refine (in_r fs.length 1 34 _ H1.out _).mono ?_); rintro e w' ⟨rfl, rfl⟩) | (go_at_call 16; refine (cont_r fs _ _ _ _ _ H3.out _ (HT.out.below ((Below.refl _ _).alloc (Nat.le_refl _) _)) (HG.out.stay ((Below.refl _ _).alloc (Nat.le_refl _) _)) (by simp)).mono ?_; rintro e w' ⟨rfl, hb⟩; have HB2 := Lib.hid (below_of_alloc hb); clear hb))
        go_ret
        exact ⟨rfl, HB2.out⟩
    · have hp' : (pv != 0) = true := by simpa using hp
      simp only [decide_eq_false hp, Bool.false_and, Bool.and_false]
      clear hp
      go_enter Tryd.func8, Tryd.ntmps8
      go_wp2_with (go_at_call 15; (with_reducible refine (in_r fs.length 1 34 _ H1.out _).mono ?_); rintro e w' ⟨rfl, rfl⟩)
      go_ret
      exact ⟨rfl, (Below.refl _ _).alloc (Nat.le_refl _) _⟩
end Go.Proofs.YthfgagljplabpaaDoor.V
