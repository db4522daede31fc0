/- The walk of TreeParts. -/
import Derived.Test.YtplckmpamekloaaDoorTreeShown
import Derived.Test.YtplckmpamekloaaDoorTreeOpen
import Derived.Test.YtplckmpamekloaaDoorTreeLaws
namespace Go.Proofs.YtplckmpamekloaaDoor
open Go.RowKit Go.Sort
set_option linter.unusedVariables false

theorem PR.fs {w : World} {fv mv : Value} {p : PT} (h : PR w fv mv p) : FSl w fv p.funcs := h.1
theorem PR.ms {w : World} {fv mv : Value} {p : PT} (h : PR w fv mv p) : SSl w mv p.main := h.2
theorem PR.of {w : World} {fv mv : Value} {fl : List FT} {ml : List ST} (h : FSl w fv fl) (h' : SSl w mv ml) : PR w fv mv ⟨fl, ml⟩ := ⟨h, h'⟩
theorem ESl.sub {w : World} {a : Option Addr} {n cap : Nat} {l : List ET} (h : ESl w (.slice a n cap) l) (k : Nat) (hk : k < n) : ∃ b off, a = some ⟨b, off, none⟩ ∧ ESl w (.slice (some ⟨b, off + k * 4, none⟩) 1 (cap - k)) [l.getD k default] := by
  generalize hv : Value.slice a n cap = v at h
  cases h with
  | mk a' b off cap' l f ha hc hm hcell hsub =>
    cases hv
    obtain rfl := ha (by omega)
    refine ⟨b, off, rfl, .mk _ b (off + k * 4) (cap - k) [l.getD k default] (fun _ => f k) (fun _ => rfl) (by simp; omega) (by omega) ?_ ?_⟩
    · intro i hi
      obtain rfl : i = 0 := by simp at hi; omega
      have := hcell k hk
      simpa using this
    · intro i hi
      obtain rfl : i = 0 := by simp at hi; omega
      exact hsub k hk
theorem SSl.pre {w : World} {a : Option Addr} {n cap : Nat} {l : List ST} (h : SSl w (.slice a n cap) l) (k : Nat) (hk : k ≤ n) : SSl w (.slice a k cap) (l.take k) := by
  generalize hv : Value.slice a n cap = v at h
  cases h with
  | mk a' b off cap' l f g h' ha hc hm hcell h1 h2 h3 =>
    cases hv
    have hl : (l.take k).length = k := by simp; omega
    have hg : ∀ i, i < k → (l.take k).getD i default = l.getD i default := fun i hi => by simp [List.getD, hi]
    have := SSl.mk (w := w) a b off cap (l.take k) f g h' (fun hp => ha (by omega)) (by omega) hm (fun i hi => by rw [hg i (by omega)]; exact hcell i (by omega)) (fun i hi => by rw [hg i (by omega)]; exact h1 i (by omega)) (fun i hi => by rw [hg i (by omega)]; exact h2 i (by omega)) (fun i hi => by rw [hg i (by omega)]; exact h3 i (by omega))
    rwa [hl] at this
theorem SSl.len {w : World} {a : Option Addr} {n cap : Nat} {l : List ST} (h : SSl w (.slice a n cap) l) : n = l.length ∧ n ≤ cap ∧ cap ≤ 9223372036854775807 := by
  generalize hv : Value.slice a n cap = v at h
  cases h with
  | mk a' b off cap' l f g h' ha hc hm hcell h1 h2 h3 => cases hv; exact ⟨rfl, hc, hm⟩
theorem FSl.len {w : World} {a : Option Addr} {n cap : Nat} {l : List FT} (h : FSl w (.slice a n cap) l) : n = l.length ∧ n ≤ cap ∧ cap ≤ 9223372036854775807 := by
  generalize hv : Value.slice a n cap = v at h
  cases h with
  | mk a' b off cap' l f g ha hc hm hcell h1 h2 => cases hv; exact ⟨rfl, hc, hm⟩
theorem FSl.at {w : World} {a : Option Addr} {n cap : Nat} {l : List FT} (h : FSl w (.slice a n cap) l) (k : Nat) (hk : k < n) : ∃ b off ga gn gc, a = some ⟨b, off, none⟩ ∧ w.cell? ⟨b, off + k * 3 + 2, none⟩ = some (.slice ga gn gc) ∧ SSl w (.slice ga gn gc) (l.getD k default).body := by
  generalize hv : Value.slice a n cap = v at h
  cases h with
  | mk a' b off cap' l f g ha hc hm hcell h1 h2 =>
    cases hv
    obtain ⟨_, _, e2⟩ := hcell k hk
    have hs := h2 k hk
    obtain ⟨ga, gn, gc, hg⟩ := hs.form
    rw [hg] at e2 hs
    exact ⟨b, off, ga, gn, gc, ha (by omega), e2, hs⟩
theorem SSl.at {w : World} {a : Option Addr} {n cap : Nat} {l : List ST} (h : SSl w (.slice a n cap) l) (k : Nat) (hk : k < n) : ∃ b off o s m la ln lc ga gn gc ha hn hc, a = some ⟨b, off, none⟩ ∧ (w.cell? ⟨b, off + k * 6, none⟩ = some (.int .i64 o) ∧ w.cell? ⟨b, off + k * 6 + 1, none⟩ = some (.string s) ∧ w.cell? ⟨b, off + k * 6 + 2, none⟩ = some (.int .i64 m) ∧ w.cell? ⟨b, off + k * 6 + 3, none⟩ = some (.slice la ln lc) ∧ w.cell? ⟨b, off + k * 6 + 4, none⟩ = some (.slice ga gn gc) ∧ w.cell? ⟨b, off + k * 6 + 5, none⟩ = some (.slice ha hn hc)) ∧
    ESl w (.slice la ln lc) (l.getD k default).parts ∧ SSl w (.slice ga gn gc) (l.getD k default).body ∧ SSl w (.slice ha hn hc) (l.getD k default).els ∧ l.getD k default = .mk o m s (l.getD k default).parts (l.getD k default).body (l.getD k default).els := by
  generalize hv : Value.slice a n cap = v at h
  cases h with
  | mk a' b off cap' l f g h' ha hc hm hcell h1 h2 h3 =>
    cases hv
    obtain ⟨e0, e1, e2, e3, e4, e5⟩ := hcell k hk
    have s1 := h1 k hk
    have s2 := h2 k hk
    have s3 := h3 k hk
    obtain ⟨la, lc, hl⟩ := s1.shape
    obtain ⟨ga, gc, hg⟩ := s2.shape
    obtain ⟨ea, ec, he⟩ := s3.shape
    rw [hl] at e3 s1
    rw [hg] at e4 s2
    rw [he] at e5 s3
    exact ⟨b, off, _, _, _, la, _, lc, ga, _, gc, ea, _, ec, ha (by omega), ⟨e0, e1, e2, e3, e4, e5⟩, s1, s2, s3, by cases l.getD k default; rfl⟩
theorem ESl.len {w : World} {a : Option Addr} {n cap : Nat} {l : List ET} (h : ESl w (.slice a n cap) l) : n = l.length ∧ n ≤ cap ∧ cap ≤ 9223372036854775807 := by
  generalize hv : Value.slice a n cap = v at h
  cases h with
  | mk a' b off cap' l f ha hc hm hcell h1 => cases hv; exact ⟨rfl, hc, hm⟩
theorem i64_and65535 (n : Int) : Go.bits .and .i64 n 65535 = n % 65536 := by
  have h127 : (BitVec.ofInt 64 65535).toNat = 2 ^ 16 - 1 := by decide
  have key : (BitVec.ofInt 64 n &&& BitVec.ofInt 64 65535).toNat = (n % ((2 ^ 64 : Nat) : Int)).toNat % 2 ^ 16 := by
    rw [BitVec.toNat_and, BitVec.toNat_ofInt, h127, Nat.and_two_pow_sub_one_eq_mod]
  show IntKind.i64.wrap ((BitVec.ofInt 64 n &&& BitVec.ofInt 64 65535).toNat : Nat) = n % 65536
  rw [key, IntKind.wrap_i64]
  omega
theorem bits_16 (n : Int) : ∃ x : Int, Go.bits .and .i64 n 65535 = x ∧ 0 ≤ x ∧ x ≤ 65535 := ⟨_, rfl, by rw [i64_and65535]; omega⟩

set_option maxHeartbeats 4000000 in
set_option maxRecDepth 1000000 in
theorem parts_wrong (a1 a2 : Option Addr) (n1 n2 k1 k2 : Nat) (p : PT) (n : Int) (w : World) (ht : Tab w) (hp : PR w (.slice a1 n1 k1) (.slice a2 n2 k2) p) (r : Int) (hr : p.right = r) (h0 : (r != 0) = true) :
    Calls Tryd.prog 4 #[.agg #[.slice a1 n1 k1, .slice a2 n2 k2], .int .i64 n] w fun e w' => e = .returned (.bool true) ∧ Below w.heap.size w w' := by
  have HT := Lib.hid ht
  have HP := Lib.hid hp
  have HR := Lib.hid hr
  clear ht hp hr
  have HB := hb_start w
  go_enter Tryd.func4, Tryd.ntmps4
  go_wp2_with (first
    | (go_at_call 11; refine (shown_r _ (HT.out.below ((Below.refl _ _).alloc (Nat.le_refl _) _))).mono ?_; rintro e w1 ⟨rfl, hb⟩; have HB1 : Hid (Below w.heap.size w w1) := hb_step (by repeat (first | exact HB | refine hb_drew ?_ | refine hb_alloc ?_ _)) hb; have k0 := (hb.cell (p := ⟨w.heap.size, 0, none⟩) (by simp)).trans (show _ = some (Value.slice a1 n1 k1) by simp); have k1 := (hb.cell (p := ⟨w.heap.size, 1, none⟩) (by simp)).trans (show _ = some (Value.slice a2 n2 k2) by simp); clear hb)
    | (go_at_call 12; refine (right_r _ _ _ _ _ _ p _ (HT.out.below HB1.out) (HP.out.stay HB1.out) r HR.out).mono ?_; rintro e w2 ⟨rfl, hb⟩; have HB2 : Hid (Below w.heap.size w w2) := hb_step HB1 hb; clear hb))
  go_ret
  exact ⟨rfl, HB2.out⟩

set_option maxHeartbeats 8000000 in
set_option maxRecDepth 1000000 in
theorem parts_right (a1 a2 : Option Addr) (n1 n2 k1 k2 : Nat) (p : PT) (n : Int) (w : World) (ht : Tab w) (hp : PR w (.slice a1 n1 k1) (.slice a2 n2 k2) p) (hk1 : k1 ≤ 2199023255488) (hk2 : k2 ≤ 1353245080300) (hr : p.right = 0) :
    Calls Tryd.prog 4 #[.agg #[.slice a1 n1 k1, .slice a2 n2 k2], .int .i64 n] w fun e w' => e = .returned (.bool true) ∧ Below w.heap.size w w' := by
  obtain ⟨l1, l2, l3⟩ := hp.1.len
  obtain ⟨m1, m2, m3⟩ := hp.2.len
  obtain ⟨x, hx, x0, x1⟩ := bits_16 n
  have hmod : Int.tmod x ((n2 : Int) + 1) = x % ((n2 : Int) + 1) := Int.tmod_eq_emod_of_nonneg x0
  obtain ⟨m, hm⟩ : ∃ m : Nat, x % ((n2 : Int) + 1) = (m : Int) := ⟨_, (Int.toNat_of_nonneg (Int.emod_nonneg _ (by omega))).symm⟩
  have hmn : m ≤ n2 := by have := Int.emod_lt_of_pos x (show (0 : Int) < (n2 : Int) + 1 by omega); omega
  rw [hm] at hmod
  have HR1 := Lib.hid (parts_take p hr m)
  have HR2 := Lib.hid (parts_funcs p hr)
  have HRF := Lib.hid (parts_body p hr)
  have HRM := Lib.hid (parts_main_body p hr)
  have HRE := Lib.hid (parts_expr p hr)
  obtain ⟨dd, hdd⟩ : ∃ dd, p.depth = dd := ⟨_, rfl⟩
  have hd64 : decide (64 < dd) = false := decide_eq_false (by have := parts_depth p hr; omega)
  have HDD := Lib.hid hdd
  have HT := Lib.hid ht
  have HP := Lib.hid hp
  have HR := Lib.hid hr
  have HL1 := Lib.hid l1
  have HL2 := Lib.hid m1
  clear ht hp hr hdd l1 m1
  have HB := hb_start w
  go_enter Tryd.func4, Tryd.ntmps4
  go_wp2_with (first
    | (go_at_call 11; refine (shown_r _ (HT.out.below ((Below.refl _ _).alloc (Nat.le_refl _) _))).mono ?_; rintro e w1 ⟨rfl, hb⟩; have HW1 : Hid (Below w.heap.size w w1) := hb_step (by repeat (first | exact HB | refine hb_drew ?_ | refine hb_alloc ?_ _)) hb; have HT1 : Hid (Tab w1) := HT.out.below HW1.out; have HP1 : Hid (PR w1 (.slice a1 n1 k1) (.slice a2 n2 k2) p) := HP.out.stay HW1.out; have c0 := (hb.cell (p := ⟨w.heap.size, 0, none⟩) (by simp)).trans (show _ = some (Value.slice a1 n1 k1) by simp); have c1 := (hb.cell (p := ⟨w.heap.size, 1, none⟩) (by simp)).trans (show _ = some (Value.slice a2 n2 k2) by simp); have HK0 := Lib.hid c0; have HK1 := Lib.hid c1; clear HB; have HB := hb_start w1; clear hb)
    | (go_at_call 12; (with_reducible refine (right_r a1 a2 n1 n2 k1 k2 p _ (HT1.out.below HB.out) (HP1.out.stay HB.out) 0 HR.out).mono ?_); rintro e w' ⟨rfl, hb⟩; have HB2 : Hid (Below w1.heap.size w1 w') := hb_step HB hb; clear HB; have HB := HB2; clear HB2; have c0 := (hb.cell (p := ⟨w.heap.size, 0, none⟩) (lt_of_cell c0)).trans c0; have c1 := (hb.cell (p := ⟨w.heap.size, 1, none⟩) (lt_of_cell c1)).trans c1; clear hb)
    | (go_at_call 12; (with_reducible refine (right_r none a2 0 m 0 k2 ⟨[], p.main.take m⟩ _ (HT1.out.below HB.out) (PR.of (FSl.nil _) (SSl.pre (PR.ms (HP1.out.stay HB.out)) m hmn)) 0 HR1.out).mono ?_); rintro e w' ⟨rfl, hb⟩; have HB2 : Hid (Below w1.heap.size w1 w') := hb_step HB hb; clear HB; have HB := HB2; clear HB2; have c0 := (hb.cell (p := ⟨w.heap.size, 0, none⟩) (lt_of_cell c0)).trans c0; have c1 := (hb.cell (p := ⟨w.heap.size, 1, none⟩) (lt_of_cell c1)).trans c1; clear hb)
    | (go_at_call 12; (with_reducible refine (right_r a1 none n1 0 k1 0 ⟨p.funcs, []⟩ _ (HT1.out.below HB.out) (PR.of (PR.fs (HP1.out.stay HB.out)) (SSl.nil _)) 0 HR2.out).mono ?_); rintro e w' ⟨rfl, hb⟩; have HB2 : Hid (Below w1.heap.size w1 w') := hb_step HB hb; clear HB; have HB := HB2; clear HB2; have c0 := (hb.cell (p := ⟨w.heap.size, 0, none⟩) (lt_of_cell c0)).trans c0; have c1 := (hb.cell (p := ⟨w.heap.size, 1, none⟩) (lt_of_cell c1)).trans c1; clear hb)
    | (go_at_call 14; (with_reducible refine (depth_r a1 a2 n1 n2 k1 k2 p _ (HT1.out.below HB.out) (HP1.out.stay HB.out) dd HDD.out).mono ?_); rintro e w' ⟨rfl, hb⟩; have HB2 : Hid (Below w1.heap.size w1 w') := hb_step HB hb; clear HB; have HB := HB2; clear HB2; have c0 := (hb.cell (p := ⟨w.heap.size, 0, none⟩) (lt_of_cell c0)).trans c0; have c1 := (hb.cell (p := ⟨w.heap.size, 1, none⟩) (lt_of_cell c1)).trans c1; clear hb))
  go_loopw [6] (fun i wr => ∃ k : Nat, i = .int .i64 k ∧ k ≤ n1 ∧ Hid (Below w1.heap.size w1 wr)) (fun i _ => n1 - (intOf i).toNat)
  case atStart => exact ⟨0, rfl, Nat.zero_le _, HB⟩
  case round =>
    clear HB c0 c1
    obtain ⟨k, rfl, hk, HB⟩ := hrel
    have c0 := (HB.out.cell (p := ⟨w.heap.size, 0, none⟩) (lt_of_cell HK0.out)).trans HK0.out
    have c1 := (HB.out.cell (p := ⟨w.heap.size, 1, none⟩) (lt_of_cell HK1.out)).trans HK1.out
    by_cases hlt : k < n1
    · obtain ⟨b, off, ga, gn, gc, rfl, e2, hS⟩ := (PR.fs (HP1.out.stay HB.out)).at k hlt
      have HS := Lib.hid hS
      have HRk := Lib.hid (HRF.out k (HL1.out ▸ hlt))
      clear hS
      go_wp2_with (go_at_call 12; (with_reducible refine (right_r none ga 0 gn 0 gc ⟨[], (p.funcs.getD k default).body⟩ _ (HT1.out.below HB.out) (PR.of (FSl.nil _) HS.out) 0 HRk.out).mono ?_); rintro e w' ⟨rfl, hb⟩; have HB2 : Hid (Below w1.heap.size w1 w') := hb_step HB hb; clear hb)
      go_roundw
      case rel => exact ⟨k + 1, by go_num, by omega, HB2⟩
      case measure => simp [intOf]; omega
    · obtain rfl : k = n1 := by omega
      clear hlt
      go_wp2
      go_loopw [7] (fun i wr => ∃ k : Nat, i = .int .i64 k ∧ k ≤ n2 ∧ Hid (Below w1.heap.size w1 wr)) (fun i _ => n2 - (intOf i).toNat)
      case atStart => exact ⟨0, rfl, Nat.zero_le _, HB⟩
      case round =>
        clear HB c0 c1
        obtain ⟨k, rfl, hk, HB⟩ := hrel
        have c0 := (HB.out.cell (p := ⟨w.heap.size, 0, none⟩) (lt_of_cell HK0.out)).trans HK0.out
        have c1 := (HB.out.cell (p := ⟨w.heap.size, 1, none⟩) (lt_of_cell HK1.out)).trans HK1.out
        by_cases hlt : k < n2
        · obtain ⟨b, off, o, s, mm, la, ln, lc, ga, gn, gc, ha, hn, hc, rfl, ⟨e0, e1, e2, e3, e4, e5⟩, hE, hS1, hS2, _⟩ := (PR.ms (HP1.out.stay HB.out)).at k hlt
          obtain ⟨z1, z2, z3⟩ := hE.len
          have HE := Lib.hid hE
          have HS1 := Lib.hid hS1
          have HS2 := Lib.hid hS2
          have HRk := Lib.hid (HRM.out k (HL2.out ▸ hlt))
          have HREk := Lib.hid (HRE.out k (HL2.out ▸ hlt))
          have HZ := Lib.hid z1
          clear hE hS1 hS2 z1
          have hal : Below wr.heap.size wr (wr.alloc (.cells #[.int .i64 o, .string s, .int .i64 mm, .slice la ln lc, .slice ga gn gc, .slice ha hn hc] 38)) := (Below.refl _ _).alloc (Nat.le_refl _) _
          have HAL := Lib.hid hal
          clear hal
          go_wp2_with (first
            | (go_at_call 12; (with_reducible refine (right_r none ga 0 gn 0 gc ⟨[], (p.main.getD k default).body⟩ _ (HT1.out.below (hb_alloc HB _).out) (PR.of (FSl.nil _) (HS1.out.stay HAL.out)) 0 HRk.out.1).mono ?_); rintro e w4 ⟨rfl, hb⟩; have HB4 : Hid (Below w1.heap.size w1 w4) := hb_step (hb_alloc HB _) hb; have HL4 : Hid (Below wr.heap.size wr w4) := hb_step HAL hb; have f3 := (hb.cell (p := ⟨wr.heap.size, 3, none⟩) (by simp)).trans (show _ = some (Value.slice la ln lc) by simp); have f5 := (hb.cell (p := ⟨wr.heap.size, 5, none⟩) (by simp)).trans (show _ = some (Value.slice ha hn hc) by simp); clear hb)
            | (go_at_call 12; (with_reducible refine (right_r none ha 0 hn 0 hc ⟨[], (p.main.getD k default).els⟩ _ (HT1.out.below HB4.out) (PR.of (FSl.nil _) (HS2.out.stay HL4.out)) 0 HRk.out.2).mono ?_); rintro e w5 ⟨rfl, hb⟩; have HB5 : Hid (Below w1.heap.size w1 w5) := hb_step HB4 hb; have HL5 : Hid (Below wr.heap.size wr w5) := hb_step HL4 hb; have g3 := (hb.cell (p := ⟨wr.heap.size, 3, none⟩) (lt_of_cell f3)).trans f3; clear hb))
          obtain ⟨wo, rfl⟩ : ∃ wo : World, wo = wr := ⟨_, rfl⟩
          have HG3 := Lib.hid g3
          have HE5 : Hid (ESl w5 (.slice la ln lc) (p.main.getD k default).parts) := HE.out.stay HL5.out
          go_loopw [9] (fun i wr => ∃ j : Nat, i = .int .i64 j ∧ j ≤ ln ∧ Hid (Below w5.heap.size w5 wr)) (fun i _ => ln - (intOf i).toNat)
          case atStart => exact ⟨0, rfl, Nat.zero_le _, hb_start w5⟩
          case round =>
            clear g3 f3 f5 e0 e1 e2 e3 e4 e5 c0 c1
            obtain ⟨j, rfl, hj, HX⟩ := hrel
            have g3 := (HX.out.cell (p := ⟨wo.heap.size, 3, none⟩) (lt_of_cell HG3.out)).trans HG3.out
            have HX1 : Hid (Below w1.heap.size w1 wr) := hb_step HB5 HX.out
            by_cases hlt : j < ln
            · obtain ⟨eb, eoff, rfl, hS⟩ := (HE5.out.stay HX.out).sub j hlt
              have HS := Lib.hid hS
              have HRj := Lib.hid (HREk.out j (HZ.out ▸ hlt))
              have hal : Below wr.heap.size wr (wr.alloc (.cells #[.int .i64 5, .string ⟨#[]⟩, .int .i64 0, .slice (some ⟨eb, eoff + j * 4, none⟩) 1 (lc - j), .slice none 0 0, .slice none 0 0] 38)) := (Below.refl _ _).alloc (Nat.le_refl _) _
              have HAL2 := Lib.hid hal
              have HSO := Lib.hid (SSl.one (o := 5) (n := 0) (s := ⟨#[]⟩) (heap_alloc_new wr (.cells #[.int .i64 5, .string ⟨#[]⟩, .int .i64 0, .slice (some ⟨eb, eoff + j * 4, none⟩) 1 (lc - j), .slice none 0 0, .slice none 0 0] 38)) (hS.stay hal) (SSl.nil _) (SSl.nil _))
              clear hS hal
              go_wp2_with (go_at_call 12; (with_reducible refine (right_r none (some ⟨wr.heap.size, 0, none⟩) 0 1 0 1 ⟨[], [.mk 5 0 ⟨#[]⟩ [(p.main.getD k default).parts.getD j default] [] []]⟩ _ (HT1.out.below (hb_alloc HX1 _).out) (PR.of (FSl.nil _) HSO.out) 0 HRj.out).mono ?_); rintro e w6 ⟨rfl, hb⟩; have HX6 : Hid (Below w5.heap.size w5 w6) := hb_step (hb_alloc HX _) hb; clear hb)
              go_roundw
              case rel => exact ⟨j + 1, by go_num, by omega, HX6⟩
              case measure => simp [intOf]; omega
            · obtain rfl : j = ln := by omega
              go_wp2
              go_roundw
              case rel => exact ⟨k + 1, by go_num, by omega, HX1⟩
              case measure => simp [intOf]; omega
        · obtain rfl : k = n2 := by omega
          go_wp2
          go_ret
          exact ⟨rfl, HW1.out.trans (HB.out.mono HW1.out.size)⟩
def Came (w : World) (a1 : Option Addr) (n1 k1 : Nat) (a2 : Option Addr) (n2 k2 : Nat) (p : PT) : Prop := PR w (.slice a1 n1 k1) (.slice a2 n2 k2) p ∧ k1 ≤ 2199023255488 ∧ k2 ≤ 1353245080300
theorem parts_walk (a1 : Option Addr) (n1 k1 : Nat) (a2 : Option Addr) (n2 k2 : Nat) (p : PT) (n : Int) (w : World) (o : Came w a1 n1 k1 a2 n2 k2 p) (ht : Tab w) :
    Calls Tryd.prog 4 #[.agg #[.slice a1 n1 k1, .slice a2 n2 k2], .int .i64 n] w fun e w' => e = .returned (.bool true) ∧ Below w.heap.size w w' := by
  by_cases h : p.right = 0
  · exact parts_right a1 a2 n1 n2 k1 k2 p n w ht o.1 o.2.1 o.2.2 h
  · exact parts_wrong a1 a2 n1 n2 k1 k2 p n w ht o.1 _ rfl (by simpa using h)
end Go.Proofs.YtplckmpamekloaaDoor
