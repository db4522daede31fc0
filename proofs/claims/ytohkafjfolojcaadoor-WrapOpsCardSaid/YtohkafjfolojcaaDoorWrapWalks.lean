/- The walks of the statements of the wrap layer over operations: each is true for every input. -/
import Derived.Test.YtohkafjfolojcaaDoorWrap
import Derived.Test.YtohkafjfolojcaaDoorWrapPure
namespace Go.Proofs.YtohkafjfolojcaaDoor
open Go.RowKit Go.Sort
theorem nef {a b : Int} (h : a = b) : (a != b) = false := by subst h; simp
theorem eqt {a b : Int} (h : a = b) : (a == b) = true := by subst h; simp
theorem eqf {a b : Int} (h : a ≠ b) : (a == b) = false := by simpa using h
theorem net {a b : Int} (h : a ≠ b) : (a != b) = true := by simpa using h

set_option maxHeartbeats 8000000 in
set_option maxRecDepth 1000000 in
theorem ring_walk (a b c : Int) (ha : R a) (w : World) (ht : Tab w) :
    Calls Tryd.prog 5 #[.int .i64 a, .int .i64 b, .int .i64 c] w fun e w' => e = .returned (.bool true) ∧ Below w.heap.size w w' := by
  have HT := Lib.hid ht
  clear ht
  have HB := hb_start w
  have e1 := nef (add_comm_ a b)
  have e2 := nef (mul_comm_ a b)
  have e3 := nef (add_assoc_ a b c)
  have e4 := nef (mul_assoc_ a b c)
  have e5 := nef (sub_add_ a b ha)
  have e6 := nef (add_neg_ a)
  have e7 := nef (sub_neg_ a b)
  have e8 := nef (neg_neg_ a ha)
  have e9 := eqt (mul_add_ a b c)
  have e10 := eqt (mul_one_ a ha)
  have e11 := eqt (mul_zero_ a)
  have e12 := eqt (mul_neg_one_ a)
  clear ha
  go_enter Tryd.func5, Tryd.ntmps5
  go_wp2_with (first | (go_at_call 12; refine (shown_any _ (Tab.at HT HB)).mono ?_; rintro e w' ⟨rfl, hb⟩; replace HB := hb_step HB hb; clear hb) | (go_at_call 15; refine (neg_any _ _).mono ?_; rintro e w' ⟨rfl, rfl⟩) | (go_at_call 16; refine (not_any _ _).mono ?_; rintro e w' ⟨rfl, rfl⟩) | (go_at_call 17; refine (add_any _ _ _).mono ?_; rintro e w' ⟨rfl, rfl⟩) | (go_at_call 18; refine (sub_any _ _ _).mono ?_; rintro e w' ⟨rfl, rfl⟩) | (go_at_call 19; refine (mul_any _ _ _).mono ?_; rintro e w' ⟨rfl, rfl⟩) | (go_at_call 22; refine (less_any _ _ _).mono ?_; rintro e w' ⟨rfl, rfl⟩) | (go_at_call 23; refine (same_any _ _ _).mono ?_; rintro e w' ⟨rfl, rfl⟩) | (go_at_call 24; refine (and_any _ _ _).mono ?_; rintro e w' ⟨rfl, rfl⟩) | (go_at_call 25; refine (or_any _ _ _).mono ?_; rintro e w' ⟨rfl, rfl⟩) | (go_at_call 20; refine (div_any _ _ _).mono ?_; rintro e w' ⟨rfl, rfl⟩) | (go_at_call 21; refine (mod_any _ _ _).mono ?_; rintro e w' ⟨rfl, rfl⟩) | (go_at_call 13; refine (do_any _ _ _ _).mono ?_; rintro e w' ⟨rfl, rfl⟩))
  go_ret
  exact ⟨rfl, HB.out⟩

theorem wDo_none (op a b : Int) (h : ¬ (6 ≤ op ∧ op ≤ 16)) : wDo op a b = (0, false) := by unfold wDo; repeat (first | rw [if_neg (by omega)] | rfl)

set_option maxHeartbeats 8000000 in
set_option maxRecDepth 1000000 in
theorem ops_walk (op a b c : Int) (w : World) (ht : Tab w) :
    Calls Tryd.prog 11 #[.int .i64 op, .int .i64 a, .int .i64 b, .int .i64 c] w fun e w' => e = .returned (.bool true) ∧ Below w.heap.size w w' := by
  have HT := Lib.hid ht
  clear ht
  have HB := hb_start w
  by_cases hop : 6 ≤ op ∧ op ≤ 16
  · have : op = 6 ∨ op = 7 ∨ op = 8 ∨ op = 9 ∨ op = 10 ∨ op = 11 ∨ op = 12 ∨ op = 13 ∨ op = 14 ∨ op = 15 ∨ op = 16 := by omega
    clear hop
    rcases this with rfl | rfl | rfl | rfl | rfl | rfl | rfl | rfl | rfl | rfl | rfl
    · have d1 : wDo 6 a b = (wNeg a, true) := rfl
      have d2 : wDo 6 a c = (wNeg a, true) := rfl
      go_enter Tryd.func11, Tryd.ntmps11
      go_wp2_with (first | (go_at_call 12; refine (shown_any _ (Tab.at HT HB)).mono ?_; rintro e w' ⟨rfl, hb⟩; replace HB := hb_step HB hb; clear hb) | (go_at_call 15; refine (neg_any _ _).mono ?_; rintro e w' ⟨rfl, rfl⟩) | (go_at_call 16; refine (not_any _ _).mono ?_; rintro e w' ⟨rfl, rfl⟩) | (go_at_call 17; refine (add_any _ _ _).mono ?_; rintro e w' ⟨rfl, rfl⟩) | (go_at_call 18; refine (sub_any _ _ _).mono ?_; rintro e w' ⟨rfl, rfl⟩) | (go_at_call 19; refine (mul_any _ _ _).mono ?_; rintro e w' ⟨rfl, rfl⟩) | (go_at_call 22; refine (less_any _ _ _).mono ?_; rintro e w' ⟨rfl, rfl⟩) | (go_at_call 23; refine (same_any _ _ _).mono ?_; rintro e w' ⟨rfl, rfl⟩) | (go_at_call 24; refine (and_any _ _ _).mono ?_; rintro e w' ⟨rfl, rfl⟩) | (go_at_call 25; refine (or_any _ _ _).mono ?_; rintro e w' ⟨rfl, rfl⟩) | (go_at_call 20; refine (div_any _ _ _).mono ?_; rintro e w' ⟨rfl, rfl⟩) | (go_at_call 21; refine (mod_any _ _ _).mono ?_; rintro e w' ⟨rfl, rfl⟩) | (go_at_call 13; refine (do_any _ _ _ _).mono ?_; rintro e w' ⟨rfl, rfl⟩))
      go_ret
      exact ⟨rfl, HB.out⟩
    · have d1 : wDo 7 a b = (wNot a, true) := rfl
      have d2 : wDo 7 a c = (wNot a, true) := rfl
      go_enter Tryd.func11, Tryd.ntmps11
      go_wp2_with (first | (go_at_call 12; refine (shown_any _ (Tab.at HT HB)).mono ?_; rintro e w' ⟨rfl, hb⟩; replace HB := hb_step HB hb; clear hb) | (go_at_call 15; refine (neg_any _ _).mono ?_; rintro e w' ⟨rfl, rfl⟩) | (go_at_call 16; refine (not_any _ _).mono ?_; rintro e w' ⟨rfl, rfl⟩) | (go_at_call 17; refine (add_any _ _ _).mono ?_; rintro e w' ⟨rfl, rfl⟩) | (go_at_call 18; refine (sub_any _ _ _).mono ?_; rintro e w' ⟨rfl, rfl⟩) | (go_at_call 19; refine (mul_any _ _ _).mono ?_; rintro e w' ⟨rfl, rfl⟩) | (go_at_call 22; refine (less_any _ _ _).mono ?_; rintro e w' ⟨rfl, rfl⟩) | (go_at_call 23; refine (same_any _ _ _).mono ?_; rintro e w' ⟨rfl, rfl⟩) | (go_at_call 24; refine (and_any _ _ _).mono ?_; rintro e w' ⟨rfl, rfl⟩) | (go_at_call 25; refine (or_any _ _ _).mono ?_; rintro e w' ⟨rfl, rfl⟩) | (go_at_call 20; refine (div_any _ _ _).mono ?_; rintro e w' ⟨rfl, rfl⟩) | (go_at_call 21; refine (mod_any _ _ _).mono ?_; rintro e w' ⟨rfl, rfl⟩) | (go_at_call 13; refine (do_any _ _ _ _).mono ?_; rintro e w' ⟨rfl, rfl⟩))
      go_ret
      exact ⟨rfl, HB.out⟩
    · by_cases hbc : b = c
      · subst hbc
        have d1 : wDo 8 a b = (wAdd a b, true) := rfl
        go_enter Tryd.func11, Tryd.ntmps11
        go_wp2_with (first | (go_at_call 12; refine (shown_any _ (Tab.at HT HB)).mono ?_; rintro e w' ⟨rfl, hb⟩; replace HB := hb_step HB hb; clear hb) | (go_at_call 15; refine (neg_any _ _).mono ?_; rintro e w' ⟨rfl, rfl⟩) | (go_at_call 16; refine (not_any _ _).mono ?_; rintro e w' ⟨rfl, rfl⟩) | (go_at_call 17; refine (add_any _ _ _).mono ?_; rintro e w' ⟨rfl, rfl⟩) | (go_at_call 18; refine (sub_any _ _ _).mono ?_; rintro e w' ⟨rfl, rfl⟩) | (go_at_call 19; refine (mul_any _ _ _).mono ?_; rintro e w' ⟨rfl, rfl⟩) | (go_at_call 22; refine (less_any _ _ _).mono ?_; rintro e w' ⟨rfl, rfl⟩) | (go_at_call 23; refine (same_any _ _ _).mono ?_; rintro e w' ⟨rfl, rfl⟩) | (go_at_call 24; refine (and_any _ _ _).mono ?_; rintro e w' ⟨rfl, rfl⟩) | (go_at_call 25; refine (or_any _ _ _).mono ?_; rintro e w' ⟨rfl, rfl⟩) | (go_at_call 20; refine (div_any _ _ _).mono ?_; rintro e w' ⟨rfl, rfl⟩) | (go_at_call 21; refine (mod_any _ _ _).mono ?_; rintro e w' ⟨rfl, rfl⟩) | (go_at_call 13; refine (do_any _ _ _ _).mono ?_; rintro e w' ⟨rfl, rfl⟩))
        go_ret
        exact ⟨rfl, HB.out⟩
      · have d1 : wDo 8 a b = (wAdd a b, true) := rfl
        have d2 : wDo 8 a c = (wAdd a c, true) := rfl
        have d3 := net hbc
        clear hbc
        go_enter Tryd.func11, Tryd.ntmps11
        go_wp2_with (first | (go_at_call 12; refine (shown_any _ (Tab.at HT HB)).mono ?_; rintro e w' ⟨rfl, hb⟩; replace HB := hb_step HB hb; clear hb) | (go_at_call 15; refine (neg_any _ _).mono ?_; rintro e w' ⟨rfl, rfl⟩) | (go_at_call 16; refine (not_any _ _).mono ?_; rintro e w' ⟨rfl, rfl⟩) | (go_at_call 17; refine (add_any _ _ _).mono ?_; rintro e w' ⟨rfl, rfl⟩) | (go_at_call 18; refine (sub_any _ _ _).mono ?_; rintro e w' ⟨rfl, rfl⟩) | (go_at_call 19; refine (mul_any _ _ _).mono ?_; rintro e w' ⟨rfl, rfl⟩) | (go_at_call 22; refine (less_any _ _ _).mono ?_; rintro e w' ⟨rfl, rfl⟩) | (go_at_call 23; refine (same_any _ _ _).mono ?_; rintro e w' ⟨rfl, rfl⟩) | (go_at_call 24; refine (and_any _ _ _).mono ?_; rintro e w' ⟨rfl, rfl⟩) | (go_at_call 25; refine (or_any _ _ _).mono ?_; rintro e w' ⟨rfl, rfl⟩) | (go_at_call 20; refine (div_any _ _ _).mono ?_; rintro e w' ⟨rfl, rfl⟩) | (go_at_call 21; refine (mod_any _ _ _).mono ?_; rintro e w' ⟨rfl, rfl⟩) | (go_at_call 13; refine (do_any _ _ _ _).mono ?_; rintro e w' ⟨rfl, rfl⟩))
        go_ret
        exact ⟨rfl, HB.out⟩
    · by_cases hbc : b = c
      · subst hbc
        have d1 : wDo 9 a b = (wSub a b, true) := rfl
        go_enter Tryd.func11, Tryd.ntmps11
        go_wp2_with (first | (go_at_call 12; refine (shown_any _ (Tab.at HT HB)).mono ?_; rintro e w' ⟨rfl, hb⟩; replace HB := hb_step HB hb; clear hb) | (go_at_call 15; refine (neg_any _ _).mono ?_; rintro e w' ⟨rfl, rfl⟩) | (go_at_call 16; refine (not_any _ _).mono ?_; rintro e w' ⟨rfl, rfl⟩) | (go_at_call 17; refine (add_any _ _ _).mono ?_; rintro e w' ⟨rfl, rfl⟩) | (go_at_call 18; refine (sub_any _ _ _).mono ?_; rintro e w' ⟨rfl, rfl⟩) | (go_at_call 19; refine (mul_any _ _ _).mono ?_; rintro e w' ⟨rfl, rfl⟩) | (go_at_call 22; refine (less_any _ _ _).mono ?_; rintro e w' ⟨rfl, rfl⟩) | (go_at_call 23; refine (same_any _ _ _).mono ?_; rintro e w' ⟨rfl, rfl⟩) | (go_at_call 24; refine (and_any _ _ _).mono ?_; rintro e w' ⟨rfl, rfl⟩) | (go_at_call 25; refine (or_any _ _ _).mono ?_; rintro e w' ⟨rfl, rfl⟩) | (go_at_call 20; refine (div_any _ _ _).mono ?_; rintro e w' ⟨rfl, rfl⟩) | (go_at_call 21; refine (mod_any _ _ _).mono ?_; rintro e w' ⟨rfl, rfl⟩) | (go_at_call 13; refine (do_any _ _ _ _).mono ?_; rintro e w' ⟨rfl, rfl⟩))
        go_ret
        exact ⟨rfl, HB.out⟩
      · have d1 : wDo 9 a b = (wSub a b, true) := rfl
        have d2 : wDo 9 a c = (wSub a c, true) := rfl
        have d3 := net hbc
        clear hbc
        go_enter Tryd.func11, Tryd.ntmps11
        go_wp2_with (first | (go_at_call 12; refine (shown_any _ (Tab.at HT HB)).mono ?_; rintro e w' ⟨rfl, hb⟩; replace HB := hb_step HB hb; clear hb) | (go_at_call 15; refine (neg_any _ _).mono ?_; rintro e w' ⟨rfl, rfl⟩) | (go_at_call 16; refine (not_any _ _).mono ?_; rintro e w' ⟨rfl, rfl⟩) | (go_at_call 17; refine (add_any _ _ _).mono ?_; rintro e w' ⟨rfl, rfl⟩) | (go_at_call 18; refine (sub_any _ _ _).mono ?_; rintro e w' ⟨rfl, rfl⟩) | (go_at_call 19; refine (mul_any _ _ _).mono ?_; rintro e w' ⟨rfl, rfl⟩) | (go_at_call 22; refine (less_any _ _ _).mono ?_; rintro e w' ⟨rfl, rfl⟩) | (go_at_call 23; refine (same_any _ _ _).mono ?_; rintro e w' ⟨rfl, rfl⟩) | (go_at_call 24; refine (and_any _ _ _).mono ?_; rintro e w' ⟨rfl, rfl⟩) | (go_at_call 25; refine (or_any _ _ _).mono ?_; rintro e w' ⟨rfl, rfl⟩) | (go_at_call 20; refine (div_any _ _ _).mono ?_; rintro e w' ⟨rfl, rfl⟩) | (go_at_call 21; refine (mod_any _ _ _).mono ?_; rintro e w' ⟨rfl, rfl⟩) | (go_at_call 13; refine (do_any _ _ _ _).mono ?_; rintro e w' ⟨rfl, rfl⟩))
        go_ret
        exact ⟨rfl, HB.out⟩
    · by_cases hbc : b = c
      · subst hbc
        have d1 : wDo 10 a b = (wMul a b, true) := rfl
        go_enter Tryd.func11, Tryd.ntmps11
        go_wp2_with (first | (go_at_call 12; refine (shown_any _ (Tab.at HT HB)).mono ?_; rintro e w' ⟨rfl, hb⟩; replace HB := hb_step HB hb; clear hb) | (go_at_call 15; refine (neg_any _ _).mono ?_; rintro e w' ⟨rfl, rfl⟩) | (go_at_call 16; refine (not_any _ _).mono ?_; rintro e w' ⟨rfl, rfl⟩) | (go_at_call 17; refine (add_any _ _ _).mono ?_; rintro e w' ⟨rfl, rfl⟩) | (go_at_call 18; refine (sub_any _ _ _).mono ?_; rintro e w' ⟨rfl, rfl⟩) | (go_at_call 19; refine (mul_any _ _ _).mono ?_; rintro e w' ⟨rfl, rfl⟩) | (go_at_call 22; refine (less_any _ _ _).mono ?_; rintro e w' ⟨rfl, rfl⟩) | (go_at_call 23; refine (same_any _ _ _).mono ?_; rintro e w' ⟨rfl, rfl⟩) | (go_at_call 24; refine (and_any _ _ _).mono ?_; rintro e w' ⟨rfl, rfl⟩) | (go_at_call 25; refine (or_any _ _ _).mono ?_; rintro e w' ⟨rfl, rfl⟩) | (go_at_call 20; refine (div_any _ _ _).mono ?_; rintro e w' ⟨rfl, rfl⟩) | (go_at_call 21; refine (mod_any _ _ _).mono ?_; rintro e w' ⟨rfl, rfl⟩) | (go_at_call 13; refine (do_any _ _ _ _).mono ?_; rintro e w' ⟨rfl, rfl⟩))
        go_ret
        exact ⟨rfl, HB.out⟩
      · have d1 : wDo 10 a b = (wMul a b, true) := rfl
        have d2 : wDo 10 a c = (wMul a c, true) := rfl
        have d3 := net hbc
        clear hbc
        go_enter Tryd.func11, Tryd.ntmps11
        go_wp2_with (first | (go_at_call 12; refine (shown_any _ (Tab.at HT HB)).mono ?_; rintro e w' ⟨rfl, hb⟩; replace HB := hb_step HB hb; clear hb) | (go_at_call 15; refine (neg_any _ _).mono ?_; rintro e w' ⟨rfl, rfl⟩) | (go_at_call 16; refine (not_any _ _).mono ?_; rintro e w' ⟨rfl, rfl⟩) | (go_at_call 17; refine (add_any _ _ _).mono ?_; rintro e w' ⟨rfl, rfl⟩) | (go_at_call 18; refine (sub_any _ _ _).mono ?_; rintro e w' ⟨rfl, rfl⟩) | (go_at_call 19; refine (mul_any _ _ _).mono ?_; rintro e w' ⟨rfl, rfl⟩) | (go_at_call 22; refine (less_any _ _ _).mono ?_; rintro e w' ⟨rfl, rfl⟩) | (go_at_call 23; refine (same_any _ _ _).mono ?_; rintro e w' ⟨rfl, rfl⟩) | (go_at_call 24; refine (and_any _ _ _).mono ?_; rintro e w' ⟨rfl, rfl⟩) | (go_at_call 25; refine (or_any _ _ _).mono ?_; rintro e w' ⟨rfl, rfl⟩) | (go_at_call 20; refine (div_any _ _ _).mono ?_; rintro e w' ⟨rfl, rfl⟩) | (go_at_call 21; refine (mod_any _ _ _).mono ?_; rintro e w' ⟨rfl, rfl⟩) | (go_at_call 13; refine (do_any _ _ _ _).mono ?_; rintro e w' ⟨rfl, rfl⟩))
        go_ret
        exact ⟨rfl, HB.out⟩
    · by_cases hb : b = 0
      all_goals by_cases hc : c = 0
      · have d1 : wDo 11 a b = (0, false) := if_pos hb
        have d2 : wDo 11 a c = (0, false) := if_pos hc
        have b1 := nef hb
        have c1 := nef hc
        clear hb hc
        go_enter Tryd.func11, Tryd.ntmps11
        go_wp2_with (first | (go_at_call 12; refine (shown_any _ (Tab.at HT HB)).mono ?_; rintro e w' ⟨rfl, hb⟩; replace HB := hb_step HB hb; clear hb) | (go_at_call 15; refine (neg_any _ _).mono ?_; rintro e w' ⟨rfl, rfl⟩) | (go_at_call 16; refine (not_any _ _).mono ?_; rintro e w' ⟨rfl, rfl⟩) | (go_at_call 17; refine (add_any _ _ _).mono ?_; rintro e w' ⟨rfl, rfl⟩) | (go_at_call 18; refine (sub_any _ _ _).mono ?_; rintro e w' ⟨rfl, rfl⟩) | (go_at_call 19; refine (mul_any _ _ _).mono ?_; rintro e w' ⟨rfl, rfl⟩) | (go_at_call 22; refine (less_any _ _ _).mono ?_; rintro e w' ⟨rfl, rfl⟩) | (go_at_call 23; refine (same_any _ _ _).mono ?_; rintro e w' ⟨rfl, rfl⟩) | (go_at_call 24; refine (and_any _ _ _).mono ?_; rintro e w' ⟨rfl, rfl⟩) | (go_at_call 25; refine (or_any _ _ _).mono ?_; rintro e w' ⟨rfl, rfl⟩) | (go_at_call 20; refine (div_any _ _ _).mono ?_; rintro e w' ⟨rfl, rfl⟩) | (go_at_call 21; refine (mod_any _ _ _).mono ?_; rintro e w' ⟨rfl, rfl⟩) | (go_at_call 13; refine (do_any _ _ _ _).mono ?_; rintro e w' ⟨rfl, rfl⟩))
        go_ret
        exact ⟨rfl, HB.out⟩
      · have d1 : wDo 11 a b = (0, false) := if_pos hb
        have d2 : wDo 11 a c = (wrap64 (Int.tdiv a c), true) := if_neg hc
        have b1 := nef hb
        have c1 := net hc
        clear hb hc
        go_enter Tryd.func11, Tryd.ntmps11
        go_wp2_with (first | (go_at_call 12; refine (shown_any _ (Tab.at HT HB)).mono ?_; rintro e w' ⟨rfl, hb⟩; replace HB := hb_step HB hb; clear hb) | (go_at_call 15; refine (neg_any _ _).mono ?_; rintro e w' ⟨rfl, rfl⟩) | (go_at_call 16; refine (not_any _ _).mono ?_; rintro e w' ⟨rfl, rfl⟩) | (go_at_call 17; refine (add_any _ _ _).mono ?_; rintro e w' ⟨rfl, rfl⟩) | (go_at_call 18; refine (sub_any _ _ _).mono ?_; rintro e w' ⟨rfl, rfl⟩) | (go_at_call 19; refine (mul_any _ _ _).mono ?_; rintro e w' ⟨rfl, rfl⟩) | (go_at_call 22; refine (less_any _ _ _).mono ?_; rintro e w' ⟨rfl, rfl⟩) | (go_at_call 23; refine (same_any _ _ _).mono ?_; rintro e w' ⟨rfl, rfl⟩) | (go_at_call 24; refine (and_any _ _ _).mono ?_; rintro e w' ⟨rfl, rfl⟩) | (go_at_call 25; refine (or_any _ _ _).mono ?_; rintro e w' ⟨rfl, rfl⟩) | (go_at_call 20; refine (div_any _ _ _).mono ?_; rintro e w' ⟨rfl, rfl⟩) | (go_at_call 21; refine (mod_any _ _ _).mono ?_; rintro e w' ⟨rfl, rfl⟩) | (go_at_call 13; refine (do_any _ _ _ _).mono ?_; rintro e w' ⟨rfl, rfl⟩))
        go_ret
        exact ⟨rfl, HB.out⟩
      · have d1 : wDo 11 a b = (wrap64 (Int.tdiv a b), true) := if_neg hb
        have d2 : wDo 11 a c = (0, false) := if_pos hc
        have b1 := net hb
        have c1 := nef hc
        clear hb hc
        go_enter Tryd.func11, Tryd.ntmps11
        go_wp2_with (first | (go_at_call 12; refine (shown_any _ (Tab.at HT HB)).mono ?_; rintro e w' ⟨rfl, hb⟩; replace HB := hb_step HB hb; clear hb) | (go_at_call 15; refine (neg_any _ _).mono ?_; rintro e w' ⟨rfl, rfl⟩) | (go_at_call 16; refine (not_any _ _).mono ?_; rintro e w' ⟨rfl, rfl⟩) | (go_at_call 17; refine (add_any _ _ _).mono ?_; rintro e w' ⟨rfl, rfl⟩) | (go_at_call 18; refine (sub_any _ _ _).mono ?_; rintro e w' ⟨rfl, rfl⟩) | (go_at_call 19; refine (mul_any _ _ _).mono ?_; rintro e w' ⟨rfl, rfl⟩) | (go_at_call 22; refine (less_any _ _ _).mono ?_; rintro e w' ⟨rfl, rfl⟩) | (go_at_call 23; refine (same_any _ _ _).mono ?_; rintro e w' ⟨rfl, rfl⟩) | (go_at_call 24; refine (and_any _ _ _).mono ?_; rintro e w' ⟨rfl, rfl⟩) | (go_at_call 25; refine (or_any _ _ _).mono ?_; rintro e w' ⟨rfl, rfl⟩) | (go_at_call 20; refine (div_any _ _ _).mono ?_; rintro e w' ⟨rfl, rfl⟩) | (go_at_call 21; refine (mod_any _ _ _).mono ?_; rintro e w' ⟨rfl, rfl⟩) | (go_at_call 13; refine (do_any _ _ _ _).mono ?_; rintro e w' ⟨rfl, rfl⟩))
        go_ret
        exact ⟨rfl, HB.out⟩
      · have d1 : wDo 11 a b = (wrap64 (Int.tdiv a b), true) := if_neg hb
        have d2 : wDo 11 a c = (wrap64 (Int.tdiv a c), true) := if_neg hc
        have b1 := net hb
        have c1 := net hc
        clear hb hc
        go_enter Tryd.func11, Tryd.ntmps11
        go_wp2_with (first | (go_at_call 12; refine (shown_any _ (Tab.at HT HB)).mono ?_; rintro e w' ⟨rfl, hb⟩; replace HB := hb_step HB hb; clear hb) | (go_at_call 15; refine (neg_any _ _).mono ?_; rintro e w' ⟨rfl, rfl⟩) | (go_at_call 16; refine (not_any _ _).mono ?_; rintro e w' ⟨rfl, rfl⟩) | (go_at_call 17; refine (add_any _ _ _).mono ?_; rintro e w' ⟨rfl, rfl⟩) | (go_at_call 18; refine (sub_any _ _ _).mono ?_; rintro e w' ⟨rfl, rfl⟩) | (go_at_call 19; refine (mul_any _ _ _).mono ?_; rintro e w' ⟨rfl, rfl⟩) | (go_at_call 22; refine (less_any _ _ _).mono ?_; rintro e w' ⟨rfl, rfl⟩) | (go_at_call 23; refine (same_any _ _ _).mono ?_; rintro e w' ⟨rfl, rfl⟩) | (go_at_call 24; refine (and_any _ _ _).mono ?_; rintro e w' ⟨rfl, rfl⟩) | (go_at_call 25; refine (or_any _ _ _).mono ?_; rintro e w' ⟨rfl, rfl⟩) | (go_at_call 20; refine (div_any _ _ _).mono ?_; rintro e w' ⟨rfl, rfl⟩) | (go_at_call 21; refine (mod_any _ _ _).mono ?_; rintro e w' ⟨rfl, rfl⟩) | (go_at_call 13; refine (do_any _ _ _ _).mono ?_; rintro e w' ⟨rfl, rfl⟩))
        go_ret
        exact ⟨rfl, HB.out⟩
    · by_cases hb : b = 0
      all_goals by_cases hc : c = 0
      · have d1 : wDo 12 a b = (0, false) := if_pos hb
        have d2 : wDo 12 a c = (0, false) := if_pos hc
        have b1 := nef hb
        have c1 := nef hc
        clear hb hc
        go_enter Tryd.func11, Tryd.ntmps11
        go_wp2_with (first | (go_at_call 12; refine (shown_any _ (Tab.at HT HB)).mono ?_; rintro e w' ⟨rfl, hb⟩; replace HB := hb_step HB hb; clear hb) | (go_at_call 15; refine (neg_any _ _).mono ?_; rintro e w' ⟨rfl, rfl⟩) | (go_at_call 16; refine (not_any _ _).mono ?_; rintro e w' ⟨rfl, rfl⟩) | (go_at_call 17; refine (add_any _ _ _).mono ?_; rintro e w' ⟨rfl, rfl⟩) | (go_at_call 18; refine (sub_any _ _ _).mono ?_; rintro e w' ⟨rfl, rfl⟩) | (go_at_call 19; refine (mul_any _ _ _).mono ?_; rintro e w' ⟨rfl, rfl⟩) | (go_at_call 22; refine (less_any _ _ _).mono ?_; rintro e w' ⟨rfl, rfl⟩) | (go_at_call 23; refine (same_any _ _ _).mono ?_; rintro e w' ⟨rfl, rfl⟩) | (go_at_call 24; refine (and_any _ _ _).mono ?_; rintro e w' ⟨rfl, rfl⟩) | (go_at_call 25; refine (or_any _ _ _).mono ?_; rintro e w' ⟨rfl, rfl⟩) | (go_at_call 20; refine (div_any _ _ _).mono ?_; rintro e w' ⟨rfl, rfl⟩) | (go_at_call 21; refine (mod_any _ _ _).mono ?_; rintro e w' ⟨rfl, rfl⟩) | (go_at_call 13; refine (do_any _ _ _ _).mono ?_; rintro e w' ⟨rfl, rfl⟩))
        go_ret
        exact ⟨rfl, HB.out⟩
      · have d1 : wDo 12 a b = (0, false) := if_pos hb
        have d2 : wDo 12 a c = (Int.tmod a c, true) := if_neg hc
        have b1 := nef hb
        have c1 := net hc
        clear hb hc
        go_enter Tryd.func11, Tryd.ntmps11
        go_wp2_with (first | (go_at_call 12; refine (shown_any _ (Tab.at HT HB)).mono ?_; rintro e w' ⟨rfl, hb⟩; replace HB := hb_step HB hb; clear hb) | (go_at_call 15; refine (neg_any _ _).mono ?_; rintro e w' ⟨rfl, rfl⟩) | (go_at_call 16; refine (not_any _ _).mono ?_; rintro e w' ⟨rfl, rfl⟩) | (go_at_call 17; refine (add_any _ _ _).mono ?_; rintro e w' ⟨rfl, rfl⟩) | (go_at_call 18; refine (sub_any _ _ _).mono ?_; rintro e w' ⟨rfl, rfl⟩) | (go_at_call 19; refine (mul_any _ _ _).mono ?_; rintro e w' ⟨rfl, rfl⟩) | (go_at_call 22; refine (less_any _ _ _).mono ?_; rintro e w' ⟨rfl, rfl⟩) | (go_at_call 23; refine (same_any _ _ _).mono ?_; rintro e w' ⟨rfl, rfl⟩) | (go_at_call 24; refine (and_any _ _ _).mono ?_; rintro e w' ⟨rfl, rfl⟩) | (go_at_call 25; refine (or_any _ _ _).mono ?_; rintro e w' ⟨rfl, rfl⟩) | (go_at_call 20; refine (div_any _ _ _).mono ?_; rintro e w' ⟨rfl, rfl⟩) | (go_at_call 21; refine (mod_any _ _ _).mono ?_; rintro e w' ⟨rfl, rfl⟩) | (go_at_call 13; refine (do_any _ _ _ _).mono ?_; rintro e w' ⟨rfl, rfl⟩))
        go_ret
        exact ⟨rfl, HB.out⟩
      · have d1 : wDo 12 a b = (Int.tmod a b, true) := if_neg hb
        have d2 : wDo 12 a c = (0, false) := if_pos hc
        have b1 := net hb
        have c1 := nef hc
        clear hb hc
        go_enter Tryd.func11, Tryd.ntmps11
        go_wp2_with (first | (go_at_call 12; refine (shown_any _ (Tab.at HT HB)).mono ?_; rintro e w' ⟨rfl, hb⟩; replace HB := hb_step HB hb; clear hb) | (go_at_call 15; refine (neg_any _ _).mono ?_; rintro e w' ⟨rfl, rfl⟩) | (go_at_call 16; refine (not_any _ _).mono ?_; rintro e w' ⟨rfl, rfl⟩) | (go_at_call 17; refine (add_any _ _ _).mono ?_; rintro e w' ⟨rfl, rfl⟩) | (go_at_call 18; refine (sub_any _ _ _).mono ?_; rintro e w' ⟨rfl, rfl⟩) | (go_at_call 19; refine (mul_any _ _ _).mono ?_; rintro e w' ⟨rfl, rfl⟩) | (go_at_call 22; refine (less_any _ _ _).mono ?_; rintro e w' ⟨rfl, rfl⟩) | (go_at_call 23; refine (same_any _ _ _).mono ?_; rintro e w' ⟨rfl, rfl⟩) | (go_at_call 24; refine (and_any _ _ _).mono ?_; rintro e w' ⟨rfl, rfl⟩) | (go_at_call 25; refine (or_any _ _ _).mono ?_; rintro e w' ⟨rfl, rfl⟩) | (go_at_call 20; refine (div_any _ _ _).mono ?_; rintro e w' ⟨rfl, rfl⟩) | (go_at_call 21; refine (mod_any _ _ _).mono ?_; rintro e w' ⟨rfl, rfl⟩) | (go_at_call 13; refine (do_any _ _ _ _).mono ?_; rintro e w' ⟨rfl, rfl⟩))
        go_ret
        exact ⟨rfl, HB.out⟩
      · have d1 : wDo 12 a b = (Int.tmod a b, true) := if_neg hb
        have d2 : wDo 12 a c = (Int.tmod a c, true) := if_neg hc
        have b1 := net hb
        have c1 := net hc
        clear hb hc
        go_enter Tryd.func11, Tryd.ntmps11
        go_wp2_with (first | (go_at_call 12; refine (shown_any _ (Tab.at HT HB)).mono ?_; rintro e w' ⟨rfl, hb⟩; replace HB := hb_step HB hb; clear hb) | (go_at_call 15; refine (neg_any _ _).mono ?_; rintro e w' ⟨rfl, rfl⟩) | (go_at_call 16; refine (not_any _ _).mono ?_; rintro e w' ⟨rfl, rfl⟩) | (go_at_call 17; refine (add_any _ _ _).mono ?_; rintro e w' ⟨rfl, rfl⟩) | (go_at_call 18; refine (sub_any _ _ _).mono ?_; rintro e w' ⟨rfl, rfl⟩) | (go_at_call 19; refine (mul_any _ _ _).mono ?_; rintro e w' ⟨rfl, rfl⟩) | (go_at_call 22; refine (less_any _ _ _).mono ?_; rintro e w' ⟨rfl, rfl⟩) | (go_at_call 23; refine (same_any _ _ _).mono ?_; rintro e w' ⟨rfl, rfl⟩) | (go_at_call 24; refine (and_any _ _ _).mono ?_; rintro e w' ⟨rfl, rfl⟩) | (go_at_call 25; refine (or_any _ _ _).mono ?_; rintro e w' ⟨rfl, rfl⟩) | (go_at_call 20; refine (div_any _ _ _).mono ?_; rintro e w' ⟨rfl, rfl⟩) | (go_at_call 21; refine (mod_any _ _ _).mono ?_; rintro e w' ⟨rfl, rfl⟩) | (go_at_call 13; refine (do_any _ _ _ _).mono ?_; rintro e w' ⟨rfl, rfl⟩))
        go_ret
        exact ⟨rfl, HB.out⟩
    · by_cases hbc : b = c
      · subst hbc
        have d1 : wDo 13 a b = (wLess a b, true) := rfl
        go_enter Tryd.func11, Tryd.ntmps11
        go_wp2_with (first | (go_at_call 12; refine (shown_any _ (Tab.at HT HB)).mono ?_; rintro e w' ⟨rfl, hb⟩; replace HB := hb_step HB hb; clear hb) | (go_at_call 15; refine (neg_any _ _).mono ?_; rintro e w' ⟨rfl, rfl⟩) | (go_at_call 16; refine (not_any _ _).mono ?_; rintro e w' ⟨rfl, rfl⟩) | (go_at_call 17; refine (add_any _ _ _).mono ?_; rintro e w' ⟨rfl, rfl⟩) | (go_at_call 18; refine (sub_any _ _ _).mono ?_; rintro e w' ⟨rfl, rfl⟩) | (go_at_call 19; refine (mul_any _ _ _).mono ?_; rintro e w' ⟨rfl, rfl⟩) | (go_at_call 22; refine (less_any _ _ _).mono ?_; rintro e w' ⟨rfl, rfl⟩) | (go_at_call 23; refine (same_any _ _ _).mono ?_; rintro e w' ⟨rfl, rfl⟩) | (go_at_call 24; refine (and_any _ _ _).mono ?_; rintro e w' ⟨rfl, rfl⟩) | (go_at_call 25; refine (or_any _ _ _).mono ?_; rintro e w' ⟨rfl, rfl⟩) | (go_at_call 20; refine (div_any _ _ _).mono ?_; rintro e w' ⟨rfl, rfl⟩) | (go_at_call 21; refine (mod_any _ _ _).mono ?_; rintro e w' ⟨rfl, rfl⟩) | (go_at_call 13; refine (do_any _ _ _ _).mono ?_; rintro e w' ⟨rfl, rfl⟩))
        go_ret
        exact ⟨rfl, HB.out⟩
      · have d1 : wDo 13 a b = (wLess a b, true) := rfl
        have d2 : wDo 13 a c = (wLess a c, true) := rfl
        have d3 := net hbc
        clear hbc
        go_enter Tryd.func11, Tryd.ntmps11
        go_wp2_with (first | (go_at_call 12; refine (shown_any _ (Tab.at HT HB)).mono ?_; rintro e w' ⟨rfl, hb⟩; replace HB := hb_step HB hb; clear hb) | (go_at_call 15; refine (neg_any _ _).mono ?_; rintro e w' ⟨rfl, rfl⟩) | (go_at_call 16; refine (not_any _ _).mono ?_; rintro e w' ⟨rfl, rfl⟩) | (go_at_call 17; refine (add_any _ _ _).mono ?_; rintro e w' ⟨rfl, rfl⟩) | (go_at_call 18; refine (sub_any _ _ _).mono ?_; rintro e w' ⟨rfl, rfl⟩) | (go_at_call 19; refine (mul_any _ _ _).mono ?_; rintro e w' ⟨rfl, rfl⟩) | (go_at_call 22; refine (less_any _ _ _).mono ?_; rintro e w' ⟨rfl, rfl⟩) | (go_at_call 23; refine (same_any _ _ _).mono ?_; rintro e w' ⟨rfl, rfl⟩) | (go_at_call 24; refine (and_any _ _ _).mono ?_; rintro e w' ⟨rfl, rfl⟩) | (go_at_call 25; refine (or_any _ _ _).mono ?_; rintro e w' ⟨rfl, rfl⟩) | (go_at_call 20; refine (div_any _ _ _).mono ?_; rintro e w' ⟨rfl, rfl⟩) | (go_at_call 21; refine (mod_any _ _ _).mono ?_; rintro e w' ⟨rfl, rfl⟩) | (go_at_call 13; refine (do_any _ _ _ _).mono ?_; rintro e w' ⟨rfl, rfl⟩))
        go_ret
        exact ⟨rfl, HB.out⟩
    · by_cases hbc : b = c
      · subst hbc
        have d1 : wDo 14 a b = (wSame a b, true) := rfl
        go_enter Tryd.func11, Tryd.ntmps11
        go_wp2_with (first | (go_at_call 12; refine (shown_any _ (Tab.at HT HB)).mono ?_; rintro e w' ⟨rfl, hb⟩; replace HB := hb_step HB hb; clear hb) | (go_at_call 15; refine (neg_any _ _).mono ?_; rintro e w' ⟨rfl, rfl⟩) | (go_at_call 16; refine (not_any _ _).mono ?_; rintro e w' ⟨rfl, rfl⟩) | (go_at_call 17; refine (add_any _ _ _).mono ?_; rintro e w' ⟨rfl, rfl⟩) | (go_at_call 18; refine (sub_any _ _ _).mono ?_; rintro e w' ⟨rfl, rfl⟩) | (go_at_call 19; refine (mul_any _ _ _).mono ?_; rintro e w' ⟨rfl, rfl⟩) | (go_at_call 22; refine (less_any _ _ _).mono ?_; rintro e w' ⟨rfl, rfl⟩) | (go_at_call 23; refine (same_any _ _ _).mono ?_; rintro e w' ⟨rfl, rfl⟩) | (go_at_call 24; refine (and_any _ _ _).mono ?_; rintro e w' ⟨rfl, rfl⟩) | (go_at_call 25; refine (or_any _ _ _).mono ?_; rintro e w' ⟨rfl, rfl⟩) | (go_at_call 20; refine (div_any _ _ _).mono ?_; rintro e w' ⟨rfl, rfl⟩) | (go_at_call 21; refine (mod_any _ _ _).mono ?_; rintro e w' ⟨rfl, rfl⟩) | (go_at_call 13; refine (do_any _ _ _ _).mono ?_; rintro e w' ⟨rfl, rfl⟩))
        go_ret
        exact ⟨rfl, HB.out⟩
      · have d1 : wDo 14 a b = (wSame a b, true) := rfl
        have d2 : wDo 14 a c = (wSame a c, true) := rfl
        have d3 := net hbc
        clear hbc
        go_enter Tryd.func11, Tryd.ntmps11
        go_wp2_with (first | (go_at_call 12; refine (shown_any _ (Tab.at HT HB)).mono ?_; rintro e w' ⟨rfl, hb⟩; replace HB := hb_step HB hb; clear hb) | (go_at_call 15; refine (neg_any _ _).mono ?_; rintro e w' ⟨rfl, rfl⟩) | (go_at_call 16; refine (not_any _ _).mono ?_; rintro e w' ⟨rfl, rfl⟩) | (go_at_call 17; refine (add_any _ _ _).mono ?_; rintro e w' ⟨rfl, rfl⟩) | (go_at_call 18; refine (sub_any _ _ _).mono ?_; rintro e w' ⟨rfl, rfl⟩) | (go_at_call 19; refine (mul_any _ _ _).mono ?_; rintro e w' ⟨rfl, rfl⟩) | (go_at_call 22; refine (less_any _ _ _).mono ?_; rintro e w' ⟨rfl, rfl⟩) | (go_at_call 23; refine (same_any _ _ _).mono ?_; rintro e w' ⟨rfl, rfl⟩) | (go_at_call 24; refine (and_any _ _ _).mono ?_; rintro e w' ⟨rfl, rfl⟩) | (go_at_call 25; refine (or_any _ _ _).mono ?_; rintro e w' ⟨rfl, rfl⟩) | (go_at_call 20; refine (div_any _ _ _).mono ?_; rintro e w' ⟨rfl, rfl⟩) | (go_at_call 21; refine (mod_any _ _ _).mono ?_; rintro e w' ⟨rfl, rfl⟩) | (go_at_call 13; refine (do_any _ _ _ _).mono ?_; rintro e w' ⟨rfl, rfl⟩))
        go_ret
        exact ⟨rfl, HB.out⟩
    · by_cases hbc : b = c
      · subst hbc
        have d1 : wDo 15 a b = (wAnd a b, true) := rfl
        go_enter Tryd.func11, Tryd.ntmps11
        go_wp2_with (first | (go_at_call 12; refine (shown_any _ (Tab.at HT HB)).mono ?_; rintro e w' ⟨rfl, hb⟩; replace HB := hb_step HB hb; clear hb) | (go_at_call 15; refine (neg_any _ _).mono ?_; rintro e w' ⟨rfl, rfl⟩) | (go_at_call 16; refine (not_any _ _).mono ?_; rintro e w' ⟨rfl, rfl⟩) | (go_at_call 17; refine (add_any _ _ _).mono ?_; rintro e w' ⟨rfl, rfl⟩) | (go_at_call 18; refine (sub_any _ _ _).mono ?_; rintro e w' ⟨rfl, rfl⟩) | (go_at_call 19; refine (mul_any _ _ _).mono ?_; rintro e w' ⟨rfl, rfl⟩) | (go_at_call 22; refine (less_any _ _ _).mono ?_; rintro e w' ⟨rfl, rfl⟩) | (go_at_call 23; refine (same_any _ _ _).mono ?_; rintro e w' ⟨rfl, rfl⟩) | (go_at_call 24; refine (and_any _ _ _).mono ?_; rintro e w' ⟨rfl, rfl⟩) | (go_at_call 25; refine (or_any _ _ _).mono ?_; rintro e w' ⟨rfl, rfl⟩) | (go_at_call 20; refine (div_any _ _ _).mono ?_; rintro e w' ⟨rfl, rfl⟩) | (go_at_call 21; refine (mod_any _ _ _).mono ?_; rintro e w' ⟨rfl, rfl⟩) | (go_at_call 13; refine (do_any _ _ _ _).mono ?_; rintro e w' ⟨rfl, rfl⟩))
        go_ret
        exact ⟨rfl, HB.out⟩
      · have d1 : wDo 15 a b = (wAnd a b, true) := rfl
        have d2 : wDo 15 a c = (wAnd a c, true) := rfl
        have d3 := net hbc
        clear hbc
        go_enter Tryd.func11, Tryd.ntmps11
        go_wp2_with (first | (go_at_call 12; refine (shown_any _ (Tab.at HT HB)).mono ?_; rintro e w' ⟨rfl, hb⟩; replace HB := hb_step HB hb; clear hb) | (go_at_call 15; refine (neg_any _ _).mono ?_; rintro e w' ⟨rfl, rfl⟩) | (go_at_call 16; refine (not_any _ _).mono ?_; rintro e w' ⟨rfl, rfl⟩) | (go_at_call 17; refine (add_any _ _ _).mono ?_; rintro e w' ⟨rfl, rfl⟩) | (go_at_call 18; refine (sub_any _ _ _).mono ?_; rintro e w' ⟨rfl, rfl⟩) | (go_at_call 19; refine (mul_any _ _ _).mono ?_; rintro e w' ⟨rfl, rfl⟩) | (go_at_call 22; refine (less_any _ _ _).mono ?_; rintro e w' ⟨rfl, rfl⟩) | (go_at_call 23; refine (same_any _ _ _).mono ?_; rintro e w' ⟨rfl, rfl⟩) | (go_at_call 24; refine (and_any _ _ _).mono ?_; rintro e w' ⟨rfl, rfl⟩) | (go_at_call 25; refine (or_any _ _ _).mono ?_; rintro e w' ⟨rfl, rfl⟩) | (go_at_call 20; refine (div_any _ _ _).mono ?_; rintro e w' ⟨rfl, rfl⟩) | (go_at_call 21; refine (mod_any _ _ _).mono ?_; rintro e w' ⟨rfl, rfl⟩) | (go_at_call 13; refine (do_any _ _ _ _).mono ?_; rintro e w' ⟨rfl, rfl⟩))
        go_ret
        exact ⟨rfl, HB.out⟩
    · by_cases hbc : b = c
      · subst hbc
        have d1 : wDo 16 a b = (wOr a b, true) := rfl
        go_enter Tryd.func11, Tryd.ntmps11
        go_wp2_with (first | (go_at_call 12; refine (shown_any _ (Tab.at HT HB)).mono ?_; rintro e w' ⟨rfl, hb⟩; replace HB := hb_step HB hb; clear hb) | (go_at_call 15; refine (neg_any _ _).mono ?_; rintro e w' ⟨rfl, rfl⟩) | (go_at_call 16; refine (not_any _ _).mono ?_; rintro e w' ⟨rfl, rfl⟩) | (go_at_call 17; refine (add_any _ _ _).mono ?_; rintro e w' ⟨rfl, rfl⟩) | (go_at_call 18; refine (sub_any _ _ _).mono ?_; rintro e w' ⟨rfl, rfl⟩) | (go_at_call 19; refine (mul_any _ _ _).mono ?_; rintro e w' ⟨rfl, rfl⟩) | (go_at_call 22; refine (less_any _ _ _).mono ?_; rintro e w' ⟨rfl, rfl⟩) | (go_at_call 23; refine (same_any _ _ _).mono ?_; rintro e w' ⟨rfl, rfl⟩) | (go_at_call 24; refine (and_any _ _ _).mono ?_; rintro e w' ⟨rfl, rfl⟩) | (go_at_call 25; refine (or_any _ _ _).mono ?_; rintro e w' ⟨rfl, rfl⟩) | (go_at_call 20; refine (div_any _ _ _).mono ?_; rintro e w' ⟨rfl, rfl⟩) | (go_at_call 21; refine (mod_any _ _ _).mono ?_; rintro e w' ⟨rfl, rfl⟩) | (go_at_call 13; refine (do_any _ _ _ _).mono ?_; rintro e w' ⟨rfl, rfl⟩))
        go_ret
        exact ⟨rfl, HB.out⟩
      · have d1 : wDo 16 a b = (wOr a b, true) := rfl
        have d2 : wDo 16 a c = (wOr a c, true) := rfl
        have d3 := net hbc
        clear hbc
        go_enter Tryd.func11, Tryd.ntmps11
        go_wp2_with (first | (go_at_call 12; refine (shown_any _ (Tab.at HT HB)).mono ?_; rintro e w' ⟨rfl, hb⟩; replace HB := hb_step HB hb; clear hb) | (go_at_call 15; refine (neg_any _ _).mono ?_; rintro e w' ⟨rfl, rfl⟩) | (go_at_call 16; refine (not_any _ _).mono ?_; rintro e w' ⟨rfl, rfl⟩) | (go_at_call 17; refine (add_any _ _ _).mono ?_; rintro e w' ⟨rfl, rfl⟩) | (go_at_call 18; refine (sub_any _ _ _).mono ?_; rintro e w' ⟨rfl, rfl⟩) | (go_at_call 19; refine (mul_any _ _ _).mono ?_; rintro e w' ⟨rfl, rfl⟩) | (go_at_call 22; refine (less_any _ _ _).mono ?_; rintro e w' ⟨rfl, rfl⟩) | (go_at_call 23; refine (same_any _ _ _).mono ?_; rintro e w' ⟨rfl, rfl⟩) | (go_at_call 24; refine (and_any _ _ _).mono ?_; rintro e w' ⟨rfl, rfl⟩) | (go_at_call 25; refine (or_any _ _ _).mono ?_; rintro e w' ⟨rfl, rfl⟩) | (go_at_call 20; refine (div_any _ _ _).mono ?_; rintro e w' ⟨rfl, rfl⟩) | (go_at_call 21; refine (mod_any _ _ _).mono ?_; rintro e w' ⟨rfl, rfl⟩) | (go_at_call 13; refine (do_any _ _ _ _).mono ?_; rintro e w' ⟨rfl, rfl⟩))
        go_ret
        exact ⟨rfl, HB.out⟩
  · have d1 := wDo_none op a b hop
    have d2 := wDo_none op a c hop
    by_cases h6 : op < 6
    · have h6' : decide (op < 6) = true := by simpa using h6
      clear hop
      go_enter Tryd.func11, Tryd.ntmps11
      go_wp2_with (first | (go_at_call 12; refine (shown_any _ (Tab.at HT HB)).mono ?_; rintro e w' ⟨rfl, hb⟩; replace HB := hb_step HB hb; clear hb) | (go_at_call 15; refine (neg_any _ _).mono ?_; rintro e w' ⟨rfl, rfl⟩) | (go_at_call 16; refine (not_any _ _).mono ?_; rintro e w' ⟨rfl, rfl⟩) | (go_at_call 17; refine (add_any _ _ _).mono ?_; rintro e w' ⟨rfl, rfl⟩) | (go_at_call 18; refine (sub_any _ _ _).mono ?_; rintro e w' ⟨rfl, rfl⟩) | (go_at_call 19; refine (mul_any _ _ _).mono ?_; rintro e w' ⟨rfl, rfl⟩) | (go_at_call 22; refine (less_any _ _ _).mono ?_; rintro e w' ⟨rfl, rfl⟩) | (go_at_call 23; refine (same_any _ _ _).mono ?_; rintro e w' ⟨rfl, rfl⟩) | (go_at_call 24; refine (and_any _ _ _).mono ?_; rintro e w' ⟨rfl, rfl⟩) | (go_at_call 25; refine (or_any _ _ _).mono ?_; rintro e w' ⟨rfl, rfl⟩) | (go_at_call 20; refine (div_any _ _ _).mono ?_; rintro e w' ⟨rfl, rfl⟩) | (go_at_call 21; refine (mod_any _ _ _).mono ?_; rintro e w' ⟨rfl, rfl⟩) | (go_at_call 13; refine (do_any _ _ _ _).mono ?_; rintro e w' ⟨rfl, rfl⟩))
      go_ret
      exact ⟨rfl, HB.out⟩
    · have h16 : op > 16 := by omega
      clear hop
      go_enter Tryd.func11, Tryd.ntmps11
      go_wp2_with (first | (go_at_call 12; refine (shown_any _ (Tab.at HT HB)).mono ?_; rintro e w' ⟨rfl, hb⟩; replace HB := hb_step HB hb; clear hb) | (go_at_call 15; refine (neg_any _ _).mono ?_; rintro e w' ⟨rfl, rfl⟩) | (go_at_call 16; refine (not_any _ _).mono ?_; rintro e w' ⟨rfl, rfl⟩) | (go_at_call 17; refine (add_any _ _ _).mono ?_; rintro e w' ⟨rfl, rfl⟩) | (go_at_call 18; refine (sub_any _ _ _).mono ?_; rintro e w' ⟨rfl, rfl⟩) | (go_at_call 19; refine (mul_any _ _ _).mono ?_; rintro e w' ⟨rfl, rfl⟩) | (go_at_call 22; refine (less_any _ _ _).mono ?_; rintro e w' ⟨rfl, rfl⟩) | (go_at_call 23; refine (same_any _ _ _).mono ?_; rintro e w' ⟨rfl, rfl⟩) | (go_at_call 24; refine (and_any _ _ _).mono ?_; rintro e w' ⟨rfl, rfl⟩) | (go_at_call 25; refine (or_any _ _ _).mono ?_; rintro e w' ⟨rfl, rfl⟩) | (go_at_call 20; refine (div_any _ _ _).mono ?_; rintro e w' ⟨rfl, rfl⟩) | (go_at_call 21; refine (mod_any _ _ _).mono ?_; rintro e w' ⟨rfl, rfl⟩) | (go_at_call 13; refine (do_any _ _ _ _).mono ?_; rintro e w' ⟨rfl, rfl⟩))
      go_ret
      exact ⟨rfl, HB.out⟩

set_option maxHeartbeats 8000000 in
set_option maxRecDepth 1000000 in
theorem parts_core (a b q r : Int) (hd : wDiv a b = (q, true)) (hm : wMod a b = (r, true)) (h0 : b ≠ 0) (ra : R a) (rb : R b) (he : wAdd (wMul q b) r = a) (hn : r.natAbs < b.natAbs) (hp : 0 < r → 0 ≤ a) (ha : r < 0 → a ≤ 0) (hq : a = 0 → q = 0) (h0' : a = 0 → r = 0) (w : World) (ht : Tab w) :
    Calls Tryd.prog 6 #[.int .i64 a, .int .i64 b] w fun e w' => e = .returned (.bool true) ∧ Below w.heap.size w w' := by
  have HT := Lib.hid ht
  clear ht
  have HB := hb_start w
  obtain ⟨ra1, ra2⟩ := ra
  obtain ⟨rb1, rb2⟩ := rb
  have b0 := eqf h0
  rcases Int.lt_trichotomy r 0 with h | h | h
  · rcases Int.lt_or_gt_of_ne h0 with h' | h'
    · have h5 : a ≠ 0 := by have := hn; rcases h5 : decide (a = 0) with _ | _ <;> simp at h5 <;> first | exact h5 | (have := h0' h5; omega)
      have h1 := ha h
      have h2 : b < r := by omega
      have h3 : ¬ 0 < r := by omega
      have h4 : ¬ 0 < b := by omega
      have e1 := nef he
      have h7 := net h5
      clear hn hp ha hq he h0 h5 h0'
      by_cases hq0 : q = 0
      · have h6 := eqt hq0
        clear hq0
        go_enter Tryd.func6, Tryd.ntmps6
        go_wp2_with (first | (go_at_call 12; refine (shown_any _ (Tab.at HT HB)).mono ?_; rintro e w' ⟨rfl, hb⟩; replace HB := hb_step HB hb; clear hb) | (go_at_call 15; refine (neg_any _ _).mono ?_; rintro e w' ⟨rfl, rfl⟩) | (go_at_call 16; refine (not_any _ _).mono ?_; rintro e w' ⟨rfl, rfl⟩) | (go_at_call 17; refine (add_any _ _ _).mono ?_; rintro e w' ⟨rfl, rfl⟩) | (go_at_call 18; refine (sub_any _ _ _).mono ?_; rintro e w' ⟨rfl, rfl⟩) | (go_at_call 19; refine (mul_any _ _ _).mono ?_; rintro e w' ⟨rfl, rfl⟩) | (go_at_call 22; refine (less_any _ _ _).mono ?_; rintro e w' ⟨rfl, rfl⟩) | (go_at_call 23; refine (same_any _ _ _).mono ?_; rintro e w' ⟨rfl, rfl⟩) | (go_at_call 24; refine (and_any _ _ _).mono ?_; rintro e w' ⟨rfl, rfl⟩) | (go_at_call 25; refine (or_any _ _ _).mono ?_; rintro e w' ⟨rfl, rfl⟩) | (go_at_call 20; refine (div_any _ _ _).mono ?_; rintro e w' ⟨rfl, rfl⟩) | (go_at_call 21; refine (mod_any _ _ _).mono ?_; rintro e w' ⟨rfl, rfl⟩) | (go_at_call 13; refine (do_any _ _ _ _).mono ?_; rintro e w' ⟨rfl, rfl⟩))
        go_ret
        exact ⟨rfl, HB.out⟩
      · have h6 := eqf hq0
        clear hq0
        go_enter Tryd.func6, Tryd.ntmps6
        go_wp2_with (first | (go_at_call 12; refine (shown_any _ (Tab.at HT HB)).mono ?_; rintro e w' ⟨rfl, hb⟩; replace HB := hb_step HB hb; clear hb) | (go_at_call 15; refine (neg_any _ _).mono ?_; rintro e w' ⟨rfl, rfl⟩) | (go_at_call 16; refine (not_any _ _).mono ?_; rintro e w' ⟨rfl, rfl⟩) | (go_at_call 17; refine (add_any _ _ _).mono ?_; rintro e w' ⟨rfl, rfl⟩) | (go_at_call 18; refine (sub_any _ _ _).mono ?_; rintro e w' ⟨rfl, rfl⟩) | (go_at_call 19; refine (mul_any _ _ _).mono ?_; rintro e w' ⟨rfl, rfl⟩) | (go_at_call 22; refine (less_any _ _ _).mono ?_; rintro e w' ⟨rfl, rfl⟩) | (go_at_call 23; refine (same_any _ _ _).mono ?_; rintro e w' ⟨rfl, rfl⟩) | (go_at_call 24; refine (and_any _ _ _).mono ?_; rintro e w' ⟨rfl, rfl⟩) | (go_at_call 25; refine (or_any _ _ _).mono ?_; rintro e w' ⟨rfl, rfl⟩) | (go_at_call 20; refine (div_any _ _ _).mono ?_; rintro e w' ⟨rfl, rfl⟩) | (go_at_call 21; refine (mod_any _ _ _).mono ?_; rintro e w' ⟨rfl, rfl⟩) | (go_at_call 13; refine (do_any _ _ _ _).mono ?_; rintro e w' ⟨rfl, rfl⟩))
        go_ret
        exact ⟨rfl, HB.out⟩
    · have h5 : a ≠ 0 := by have := hn; rcases h5 : decide (a = 0) with _ | _ <;> simp at h5 <;> first | exact h5 | (have := h0' h5; omega)
      have h1 := ha h
      have h2 : -b < r := by omega
      have h3 : ¬ 0 < r := by omega
      have e1 := nef he
      have h7 := net h5
      clear hn hp ha hq he h0 h5 h0'
      by_cases hq0 : q = 0
      · have h6 := eqt hq0
        clear hq0
        go_enter Tryd.func6, Tryd.ntmps6
        go_wp2_with (first | (go_at_call 12; refine (shown_any _ (Tab.at HT HB)).mono ?_; rintro e w' ⟨rfl, hb⟩; replace HB := hb_step HB hb; clear hb) | (go_at_call 15; refine (neg_any _ _).mono ?_; rintro e w' ⟨rfl, rfl⟩) | (go_at_call 16; refine (not_any _ _).mono ?_; rintro e w' ⟨rfl, rfl⟩) | (go_at_call 17; refine (add_any _ _ _).mono ?_; rintro e w' ⟨rfl, rfl⟩) | (go_at_call 18; refine (sub_any _ _ _).mono ?_; rintro e w' ⟨rfl, rfl⟩) | (go_at_call 19; refine (mul_any _ _ _).mono ?_; rintro e w' ⟨rfl, rfl⟩) | (go_at_call 22; refine (less_any _ _ _).mono ?_; rintro e w' ⟨rfl, rfl⟩) | (go_at_call 23; refine (same_any _ _ _).mono ?_; rintro e w' ⟨rfl, rfl⟩) | (go_at_call 24; refine (and_any _ _ _).mono ?_; rintro e w' ⟨rfl, rfl⟩) | (go_at_call 25; refine (or_any _ _ _).mono ?_; rintro e w' ⟨rfl, rfl⟩) | (go_at_call 20; refine (div_any _ _ _).mono ?_; rintro e w' ⟨rfl, rfl⟩) | (go_at_call 21; refine (mod_any _ _ _).mono ?_; rintro e w' ⟨rfl, rfl⟩) | (go_at_call 13; refine (do_any _ _ _ _).mono ?_; rintro e w' ⟨rfl, rfl⟩))
        go_ret
        exact ⟨rfl, HB.out⟩
      · have h6 := eqf hq0
        clear hq0
        go_enter Tryd.func6, Tryd.ntmps6
        go_wp2_with (first | (go_at_call 12; refine (shown_any _ (Tab.at HT HB)).mono ?_; rintro e w' ⟨rfl, hb⟩; replace HB := hb_step HB hb; clear hb) | (go_at_call 15; refine (neg_any _ _).mono ?_; rintro e w' ⟨rfl, rfl⟩) | (go_at_call 16; refine (not_any _ _).mono ?_; rintro e w' ⟨rfl, rfl⟩) | (go_at_call 17; refine (add_any _ _ _).mono ?_; rintro e w' ⟨rfl, rfl⟩) | (go_at_call 18; refine (sub_any _ _ _).mono ?_; rintro e w' ⟨rfl, rfl⟩) | (go_at_call 19; refine (mul_any _ _ _).mono ?_; rintro e w' ⟨rfl, rfl⟩) | (go_at_call 22; refine (less_any _ _ _).mono ?_; rintro e w' ⟨rfl, rfl⟩) | (go_at_call 23; refine (same_any _ _ _).mono ?_; rintro e w' ⟨rfl, rfl⟩) | (go_at_call 24; refine (and_any _ _ _).mono ?_; rintro e w' ⟨rfl, rfl⟩) | (go_at_call 25; refine (or_any _ _ _).mono ?_; rintro e w' ⟨rfl, rfl⟩) | (go_at_call 20; refine (div_any _ _ _).mono ?_; rintro e w' ⟨rfl, rfl⟩) | (go_at_call 21; refine (mod_any _ _ _).mono ?_; rintro e w' ⟨rfl, rfl⟩) | (go_at_call 13; refine (do_any _ _ _ _).mono ?_; rintro e w' ⟨rfl, rfl⟩))
        go_ret
        exact ⟨rfl, HB.out⟩
  · rcases Int.lt_or_gt_of_ne h0 with h' | h'
    · by_cases hz : a = 0
      · have h5 := eqt (hq hz)
        obtain rfl := h
        have h2 : b < 0 := by omega
        have h4 : ¬ 0 < b := by omega
        have e1 := nef he
        clear hn hp ha hq he h0 hz
        go_enter Tryd.func6, Tryd.ntmps6
        go_wp2_with (first | (go_at_call 12; refine (shown_any _ (Tab.at HT HB)).mono ?_; rintro e w' ⟨rfl, hb⟩; replace HB := hb_step HB hb; clear hb) | (go_at_call 15; refine (neg_any _ _).mono ?_; rintro e w' ⟨rfl, rfl⟩) | (go_at_call 16; refine (not_any _ _).mono ?_; rintro e w' ⟨rfl, rfl⟩) | (go_at_call 17; refine (add_any _ _ _).mono ?_; rintro e w' ⟨rfl, rfl⟩) | (go_at_call 18; refine (sub_any _ _ _).mono ?_; rintro e w' ⟨rfl, rfl⟩) | (go_at_call 19; refine (mul_any _ _ _).mono ?_; rintro e w' ⟨rfl, rfl⟩) | (go_at_call 22; refine (less_any _ _ _).mono ?_; rintro e w' ⟨rfl, rfl⟩) | (go_at_call 23; refine (same_any _ _ _).mono ?_; rintro e w' ⟨rfl, rfl⟩) | (go_at_call 24; refine (and_any _ _ _).mono ?_; rintro e w' ⟨rfl, rfl⟩) | (go_at_call 25; refine (or_any _ _ _).mono ?_; rintro e w' ⟨rfl, rfl⟩) | (go_at_call 20; refine (div_any _ _ _).mono ?_; rintro e w' ⟨rfl, rfl⟩) | (go_at_call 21; refine (mod_any _ _ _).mono ?_; rintro e w' ⟨rfl, rfl⟩) | (go_at_call 13; refine (do_any _ _ _ _).mono ?_; rintro e w' ⟨rfl, rfl⟩))
        go_ret
        exact ⟨rfl, HB.out⟩
      · have h5 := net hz
        obtain rfl := h
        have h2 : b < 0 := by omega
        have h4 : ¬ 0 < b := by omega
        have e1 := nef he
        clear hn hp ha hq he h0 hz
        by_cases hq0 : q = 0
        · have h6 := eqt hq0
          clear hq0
          go_enter Tryd.func6, Tryd.ntmps6
          go_wp2_with (first | (go_at_call 12; refine (shown_any _ (Tab.at HT HB)).mono ?_; rintro e w' ⟨rfl, hb⟩; replace HB := hb_step HB hb; clear hb) | (go_at_call 15; refine (neg_any _ _).mono ?_; rintro e w' ⟨rfl, rfl⟩) | (go_at_call 16; refine (not_any _ _).mono ?_; rintro e w' ⟨rfl, rfl⟩) | (go_at_call 17; refine (add_any _ _ _).mono ?_; rintro e w' ⟨rfl, rfl⟩) | (go_at_call 18; refine (sub_any _ _ _).mono ?_; rintro e w' ⟨rfl, rfl⟩) | (go_at_call 19; refine (mul_any _ _ _).mono ?_; rintro e w' ⟨rfl, rfl⟩) | (go_at_call 22; refine (less_any _ _ _).mono ?_; rintro e w' ⟨rfl, rfl⟩) | (go_at_call 23; refine (same_any _ _ _).mono ?_; rintro e w' ⟨rfl, rfl⟩) | (go_at_call 24; refine (and_any _ _ _).mono ?_; rintro e w' ⟨rfl, rfl⟩) | (go_at_call 25; refine (or_any _ _ _).mono ?_; rintro e w' ⟨rfl, rfl⟩) | (go_at_call 20; refine (div_any _ _ _).mono ?_; rintro e w' ⟨rfl, rfl⟩) | (go_at_call 21; refine (mod_any _ _ _).mono ?_; rintro e w' ⟨rfl, rfl⟩) | (go_at_call 13; refine (do_any _ _ _ _).mono ?_; rintro e w' ⟨rfl, rfl⟩))
          go_ret
          exact ⟨rfl, HB.out⟩
        · have h6 := eqf hq0
          clear hq0
          go_enter Tryd.func6, Tryd.ntmps6
          go_wp2_with (first | (go_at_call 12; refine (shown_any _ (Tab.at HT HB)).mono ?_; rintro e w' ⟨rfl, hb⟩; replace HB := hb_step HB hb; clear hb) | (go_at_call 15; refine (neg_any _ _).mono ?_; rintro e w' ⟨rfl, rfl⟩) | (go_at_call 16; refine (not_any _ _).mono ?_; rintro e w' ⟨rfl, rfl⟩) | (go_at_call 17; refine (add_any _ _ _).mono ?_; rintro e w' ⟨rfl, rfl⟩) | (go_at_call 18; refine (sub_any _ _ _).mono ?_; rintro e w' ⟨rfl, rfl⟩) | (go_at_call 19; refine (mul_any _ _ _).mono ?_; rintro e w' ⟨rfl, rfl⟩) | (go_at_call 22; refine (less_any _ _ _).mono ?_; rintro e w' ⟨rfl, rfl⟩) | (go_at_call 23; refine (same_any _ _ _).mono ?_; rintro e w' ⟨rfl, rfl⟩) | (go_at_call 24; refine (and_any _ _ _).mono ?_; rintro e w' ⟨rfl, rfl⟩) | (go_at_call 25; refine (or_any _ _ _).mono ?_; rintro e w' ⟨rfl, rfl⟩) | (go_at_call 20; refine (div_any _ _ _).mono ?_; rintro e w' ⟨rfl, rfl⟩) | (go_at_call 21; refine (mod_any _ _ _).mono ?_; rintro e w' ⟨rfl, rfl⟩) | (go_at_call 13; refine (do_any _ _ _ _).mono ?_; rintro e w' ⟨rfl, rfl⟩))
          go_ret
          exact ⟨rfl, HB.out⟩
    · by_cases hz : a = 0
      · have h5 := eqt (hq hz)
        obtain rfl := h
        have h2 : -b < 0 := by omega
        have e1 := nef he
        clear hn hp ha hq he h0 hz
        go_enter Tryd.func6, Tryd.ntmps6
        go_wp2_with (first | (go_at_call 12; refine (shown_any _ (Tab.at HT HB)).mono ?_; rintro e w' ⟨rfl, hb⟩; replace HB := hb_step HB hb; clear hb) | (go_at_call 15; refine (neg_any _ _).mono ?_; rintro e w' ⟨rfl, rfl⟩) | (go_at_call 16; refine (not_any _ _).mono ?_; rintro e w' ⟨rfl, rfl⟩) | (go_at_call 17; refine (add_any _ _ _).mono ?_; rintro e w' ⟨rfl, rfl⟩) | (go_at_call 18; refine (sub_any _ _ _).mono ?_; rintro e w' ⟨rfl, rfl⟩) | (go_at_call 19; refine (mul_any _ _ _).mono ?_; rintro e w' ⟨rfl, rfl⟩) | (go_at_call 22; refine (less_any _ _ _).mono ?_; rintro e w' ⟨rfl, rfl⟩) | (go_at_call 23; refine (same_any _ _ _).mono ?_; rintro e w' ⟨rfl, rfl⟩) | (go_at_call 24; refine (and_any _ _ _).mono ?_; rintro e w' ⟨rfl, rfl⟩) | (go_at_call 25; refine (or_any _ _ _).mono ?_; rintro e w' ⟨rfl, rfl⟩) | (go_at_call 20; refine (div_any _ _ _).mono ?_; rintro e w' ⟨rfl, rfl⟩) | (go_at_call 21; refine (mod_any _ _ _).mono ?_; rintro e w' ⟨rfl, rfl⟩) | (go_at_call 13; refine (do_any _ _ _ _).mono ?_; rintro e w' ⟨rfl, rfl⟩))
        go_ret
        exact ⟨rfl, HB.out⟩
      · have h5 := net hz
        obtain rfl := h
        have h2 : -b < 0 := by omega
        have e1 := nef he
        clear hn hp ha hq he h0 hz
        by_cases hq0 : q = 0
        · have h6 := eqt hq0
          clear hq0
          go_enter Tryd.func6, Tryd.ntmps6
          go_wp2_with (first | (go_at_call 12; refine (shown_any _ (Tab.at HT HB)).mono ?_; rintro e w' ⟨rfl, hb⟩; replace HB := hb_step HB hb; clear hb) | (go_at_call 15; refine (neg_any _ _).mono ?_; rintro e w' ⟨rfl, rfl⟩) | (go_at_call 16; refine (not_any _ _).mono ?_; rintro e w' ⟨rfl, rfl⟩) | (go_at_call 17; refine (add_any _ _ _).mono ?_; rintro e w' ⟨rfl, rfl⟩) | (go_at_call 18; refine (sub_any _ _ _).mono ?_; rintro e w' ⟨rfl, rfl⟩) | (go_at_call 19; refine (mul_any _ _ _).mono ?_; rintro e w' ⟨rfl, rfl⟩) | (go_at_call 22; refine (less_any _ _ _).mono ?_; rintro e w' ⟨rfl, rfl⟩) | (go_at_call 23; refine (same_any _ _ _).mono ?_; rintro e w' ⟨rfl, rfl⟩) | (go_at_call 24; refine (and_any _ _ _).mono ?_; rintro e w' ⟨rfl, rfl⟩) | (go_at_call 25; refine (or_any _ _ _).mono ?_; rintro e w' ⟨rfl, rfl⟩) | (go_at_call 20; refine (div_any _ _ _).mono ?_; rintro e w' ⟨rfl, rfl⟩) | (go_at_call 21; refine (mod_any _ _ _).mono ?_; rintro e w' ⟨rfl, rfl⟩) | (go_at_call 13; refine (do_any _ _ _ _).mono ?_; rintro e w' ⟨rfl, rfl⟩))
          go_ret
          exact ⟨rfl, HB.out⟩
        · have h6 := eqf hq0
          clear hq0
          go_enter Tryd.func6, Tryd.ntmps6
          go_wp2_with (first | (go_at_call 12; refine (shown_any _ (Tab.at HT HB)).mono ?_; rintro e w' ⟨rfl, hb⟩; replace HB := hb_step HB hb; clear hb) | (go_at_call 15; refine (neg_any _ _).mono ?_; rintro e w' ⟨rfl, rfl⟩) | (go_at_call 16; refine (not_any _ _).mono ?_; rintro e w' ⟨rfl, rfl⟩) | (go_at_call 17; refine (add_any _ _ _).mono ?_; rintro e w' ⟨rfl, rfl⟩) | (go_at_call 18; refine (sub_any _ _ _).mono ?_; rintro e w' ⟨rfl, rfl⟩) | (go_at_call 19; refine (mul_any _ _ _).mono ?_; rintro e w' ⟨rfl, rfl⟩) | (go_at_call 22; refine (less_any _ _ _).mono ?_; rintro e w' ⟨rfl, rfl⟩) | (go_at_call 23; refine (same_any _ _ _).mono ?_; rintro e w' ⟨rfl, rfl⟩) | (go_at_call 24; refine (and_any _ _ _).mono ?_; rintro e w' ⟨rfl, rfl⟩) | (go_at_call 25; refine (or_any _ _ _).mono ?_; rintro e w' ⟨rfl, rfl⟩) | (go_at_call 20; refine (div_any _ _ _).mono ?_; rintro e w' ⟨rfl, rfl⟩) | (go_at_call 21; refine (mod_any _ _ _).mono ?_; rintro e w' ⟨rfl, rfl⟩) | (go_at_call 13; refine (do_any _ _ _ _).mono ?_; rintro e w' ⟨rfl, rfl⟩))
          go_ret
          exact ⟨rfl, HB.out⟩
  · rcases Int.lt_or_gt_of_ne h0 with h' | h'
    · have h5 : a ≠ 0 := by have := hn; rcases h5 : decide (a = 0) with _ | _ <;> simp at h5 <;> first | exact h5 | (have := h0' h5; omega)
      have h1 := hp h
      have h2 : b < -r := by omega
      have h3 : ¬ r < 0 := by omega
      have h4 : ¬ 0 < b := by omega
      have e1 := nef he
      have h7 := net h5
      clear hn hp ha hq he h0 h5 h0'
      by_cases hq0 : q = 0
      · have h6 := eqt hq0
        clear hq0
        go_enter Tryd.func6, Tryd.ntmps6
        go_wp2_with (first | (go_at_call 12; refine (shown_any _ (Tab.at HT HB)).mono ?_; rintro e w' ⟨rfl, hb⟩; replace HB := hb_step HB hb; clear hb) | (go_at_call 15; refine (neg_any _ _).mono ?_; rintro e w' ⟨rfl, rfl⟩) | (go_at_call 16; refine (not_any _ _).mono ?_; rintro e w' ⟨rfl, rfl⟩) | (go_at_call 17; refine (add_any _ _ _).mono ?_; rintro e w' ⟨rfl, rfl⟩) | (go_at_call 18; refine (sub_any _ _ _).mono ?_; rintro e w' ⟨rfl, rfl⟩) | (go_at_call 19; refine (mul_any _ _ _).mono ?_; rintro e w' ⟨rfl, rfl⟩) | (go_at_call 22; refine (less_any _ _ _).mono ?_; rintro e w' ⟨rfl, rfl⟩) | (go_at_call 23; refine (same_any _ _ _).mono ?_; rintro e w' ⟨rfl, rfl⟩) | (go_at_call 24; refine (and_any _ _ _).mono ?_; rintro e w' ⟨rfl, rfl⟩) | (go_at_call 25; refine (or_any _ _ _).mono ?_; rintro e w' ⟨rfl, rfl⟩) | (go_at_call 20; refine (div_any _ _ _).mono ?_; rintro e w' ⟨rfl, rfl⟩) | (go_at_call 21; refine (mod_any _ _ _).mono ?_; rintro e w' ⟨rfl, rfl⟩) | (go_at_call 13; refine (do_any _ _ _ _).mono ?_; rintro e w' ⟨rfl, rfl⟩))
        go_ret
        exact ⟨rfl, HB.out⟩
      · have h6 := eqf hq0
        clear hq0
        go_enter Tryd.func6, Tryd.ntmps6
        go_wp2_with (first | (go_at_call 12; refine (shown_any _ (Tab.at HT HB)).mono ?_; rintro e w' ⟨rfl, hb⟩; replace HB := hb_step HB hb; clear hb) | (go_at_call 15; refine (neg_any _ _).mono ?_; rintro e w' ⟨rfl, rfl⟩) | (go_at_call 16; refine (not_any _ _).mono ?_; rintro e w' ⟨rfl, rfl⟩) | (go_at_call 17; refine (add_any _ _ _).mono ?_; rintro e w' ⟨rfl, rfl⟩) | (go_at_call 18; refine (sub_any _ _ _).mono ?_; rintro e w' ⟨rfl, rfl⟩) | (go_at_call 19; refine (mul_any _ _ _).mono ?_; rintro e w' ⟨rfl, rfl⟩) | (go_at_call 22; refine (less_any _ _ _).mono ?_; rintro e w' ⟨rfl, rfl⟩) | (go_at_call 23; refine (same_any _ _ _).mono ?_; rintro e w' ⟨rfl, rfl⟩) | (go_at_call 24; refine (and_any _ _ _).mono ?_; rintro e w' ⟨rfl, rfl⟩) | (go_at_call 25; refine (or_any _ _ _).mono ?_; rintro e w' ⟨rfl, rfl⟩) | (go_at_call 20; refine (div_any _ _ _).mono ?_; rintro e w' ⟨rfl, rfl⟩) | (go_at_call 21; refine (mod_any _ _ _).mono ?_; rintro e w' ⟨rfl, rfl⟩) | (go_at_call 13; refine (do_any _ _ _ _).mono ?_; rintro e w' ⟨rfl, rfl⟩))
        go_ret
        exact ⟨rfl, HB.out⟩
    · have h5 : a ≠ 0 := by have := hn; rcases h5 : decide (a = 0) with _ | _ <;> simp at h5 <;> first | exact h5 | (have := h0' h5; omega)
      have h1 := hp h
      have h2 : -b < -r := by omega
      have h3 : ¬ r < 0 := by omega
      have e1 := nef he
      have h7 := net h5
      clear hn hp ha hq he h0 h5 h0'
      by_cases hq0 : q = 0
      · have h6 := eqt hq0
        clear hq0
        go_enter Tryd.func6, Tryd.ntmps6
        go_wp2_with (first | (go_at_call 12; refine (shown_any _ (Tab.at HT HB)).mono ?_; rintro e w' ⟨rfl, hb⟩; replace HB := hb_step HB hb; clear hb) | (go_at_call 15; refine (neg_any _ _).mono ?_; rintro e w' ⟨rfl, rfl⟩) | (go_at_call 16; refine (not_any _ _).mono ?_; rintro e w' ⟨rfl, rfl⟩) | (go_at_call 17; refine (add_any _ _ _).mono ?_; rintro e w' ⟨rfl, rfl⟩) | (go_at_call 18; refine (sub_any _ _ _).mono ?_; rintro e w' ⟨rfl, rfl⟩) | (go_at_call 19; refine (mul_any _ _ _).mono ?_; rintro e w' ⟨rfl, rfl⟩) | (go_at_call 22; refine (less_any _ _ _).mono ?_; rintro e w' ⟨rfl, rfl⟩) | (go_at_call 23; refine (same_any _ _ _).mono ?_; rintro e w' ⟨rfl, rfl⟩) | (go_at_call 24; refine (and_any _ _ _).mono ?_; rintro e w' ⟨rfl, rfl⟩) | (go_at_call 25; refine (or_any _ _ _).mono ?_; rintro e w' ⟨rfl, rfl⟩) | (go_at_call 20; refine (div_any _ _ _).mono ?_; rintro e w' ⟨rfl, rfl⟩) | (go_at_call 21; refine (mod_any _ _ _).mono ?_; rintro e w' ⟨rfl, rfl⟩) | (go_at_call 13; refine (do_any _ _ _ _).mono ?_; rintro e w' ⟨rfl, rfl⟩))
        go_ret
        exact ⟨rfl, HB.out⟩
      · have h6 := eqf hq0
        clear hq0
        go_enter Tryd.func6, Tryd.ntmps6
        go_wp2_with (first | (go_at_call 12; refine (shown_any _ (Tab.at HT HB)).mono ?_; rintro e w' ⟨rfl, hb⟩; replace HB := hb_step HB hb; clear hb) | (go_at_call 15; refine (neg_any _ _).mono ?_; rintro e w' ⟨rfl, rfl⟩) | (go_at_call 16; refine (not_any _ _).mono ?_; rintro e w' ⟨rfl, rfl⟩) | (go_at_call 17; refine (add_any _ _ _).mono ?_; rintro e w' ⟨rfl, rfl⟩) | (go_at_call 18; refine (sub_any _ _ _).mono ?_; rintro e w' ⟨rfl, rfl⟩) | (go_at_call 19; refine (mul_any _ _ _).mono ?_; rintro e w' ⟨rfl, rfl⟩) | (go_at_call 22; refine (less_any _ _ _).mono ?_; rintro e w' ⟨rfl, rfl⟩) | (go_at_call 23; refine (same_any _ _ _).mono ?_; rintro e w' ⟨rfl, rfl⟩) | (go_at_call 24; refine (and_any _ _ _).mono ?_; rintro e w' ⟨rfl, rfl⟩) | (go_at_call 25; refine (or_any _ _ _).mono ?_; rintro e w' ⟨rfl, rfl⟩) | (go_at_call 20; refine (div_any _ _ _).mono ?_; rintro e w' ⟨rfl, rfl⟩) | (go_at_call 21; refine (mod_any _ _ _).mono ?_; rintro e w' ⟨rfl, rfl⟩) | (go_at_call 13; refine (do_any _ _ _ _).mono ?_; rintro e w' ⟨rfl, rfl⟩))
        go_ret
        exact ⟨rfl, HB.out⟩

set_option maxHeartbeats 8000000 in
set_option maxRecDepth 1000000 in
theorem parts_walk (a b : Int) (ha : R a) (hb : R b) (w : World) (ht : Tab w) :
    Calls Tryd.prog 6 #[.int .i64 a, .int .i64 b] w fun e w' => e = .returned (.bool true) ∧ Below w.heap.size w w' := by
  have HT := Lib.hid ht
  clear ht
  have HB := hb_start w
  by_cases h0 : b = 0
  · have d1 : wDiv a b = (0, false) := if_pos h0
    have d2 : wMod a b = (0, false) := if_pos h0
    have b0 := eqt h0
    clear h0 ha hb
    go_enter Tryd.func6, Tryd.ntmps6
    go_wp2_with (first | (go_at_call 12; refine (shown_any _ (Tab.at HT HB)).mono ?_; rintro e w' ⟨rfl, hb⟩; replace HB := hb_step HB hb; clear hb) | (go_at_call 15; refine (neg_any _ _).mono ?_; rintro e w' ⟨rfl, rfl⟩) | (go_at_call 16; refine (not_any _ _).mono ?_; rintro e w' ⟨rfl, rfl⟩) | (go_at_call 17; refine (add_any _ _ _).mono ?_; rintro e w' ⟨rfl, rfl⟩) | (go_at_call 18; refine (sub_any _ _ _).mono ?_; rintro e w' ⟨rfl, rfl⟩) | (go_at_call 19; refine (mul_any _ _ _).mono ?_; rintro e w' ⟨rfl, rfl⟩) | (go_at_call 22; refine (less_any _ _ _).mono ?_; rintro e w' ⟨rfl, rfl⟩) | (go_at_call 23; refine (same_any _ _ _).mono ?_; rintro e w' ⟨rfl, rfl⟩) | (go_at_call 24; refine (and_any _ _ _).mono ?_; rintro e w' ⟨rfl, rfl⟩) | (go_at_call 25; refine (or_any _ _ _).mono ?_; rintro e w' ⟨rfl, rfl⟩) | (go_at_call 20; refine (div_any _ _ _).mono ?_; rintro e w' ⟨rfl, rfl⟩) | (go_at_call 21; refine (mod_any _ _ _).mono ?_; rintro e w' ⟨rfl, rfl⟩) | (go_at_call 13; refine (do_any _ _ _ _).mono ?_; rintro e w' ⟨rfl, rfl⟩))
    go_ret
    exact ⟨rfl, HB.out⟩
  · refine parts_core a b _ _ (if_neg h0) (if_neg h0) h0 ha hb (parts_again a b ha) (tmod_near a b h0) (fun h => ?_) (fun h => ?_) (fun h => ?_) (fun h => ?_) w HT.out
    · by_cases h' : 0 ≤ a
      · exact h'
      · have := tmod_sign_neg a b (by omega); omega
    · by_cases h' : a ≤ 0
      · exact h'
      · have := tmod_sign_pos a b (by omega); omega
    · subst h; rw [Int.zero_tdiv]; unfold wrap64; omega
    · subst h; exact Int.zero_tmod b

set_option maxHeartbeats 8000000 in
set_option maxRecDepth 1000000 in
theorem bits_walk (a b : Int) (ha : R a) (w : World) (ht : Tab w) :
    Calls Tryd.prog 7 #[.int .i64 a, .int .i64 b] w fun e w' => e = .returned (.bool true) ∧ Below w.heap.size w w' := by
  have HT := Lib.hid ht
  clear ht
  have HB := hb_start w
  have e1 := eqt (and_or_sum a b)
  have e2 := eqt (and_self_ a ha)
  have e3 := eqt (or_zero_ a ha)
  have e4 := eqt (and_ones_ a ha)
  clear ha
  rcases Int.lt_trichotomy a b with h | h | h
  · have l1 : wLess a b = 1 := by rw [less_eq]; exact if_pos h
    have l2 : wSame a b = 0 := by rw [same_eq]; exact if_neg (by omega)
    have l3 : wLess b a = 0 := by rw [less_eq]; exact if_neg (by omega)
    have q1 := eqf (show a ≠ b by omega)
    by_cases hz : a = 0
    · have n1 : wNot a = 1 := by rw [not_eq]; exact if_pos hz
      have n2 : wSame a 0 = 1 := by rw [same_eq]; exact if_pos hz
      have n3 : wNot 1 = 0 := rfl
      clear hz
      go_enter Tryd.func7, Tryd.ntmps7
      go_wp2_with (first | (go_at_call 12; refine (shown_any _ (Tab.at HT HB)).mono ?_; rintro e w' ⟨rfl, hb⟩; replace HB := hb_step HB hb; clear hb) | (go_at_call 15; refine (neg_any _ _).mono ?_; rintro e w' ⟨rfl, rfl⟩) | (go_at_call 16; refine (not_any _ _).mono ?_; rintro e w' ⟨rfl, rfl⟩) | (go_at_call 17; refine (add_any _ _ _).mono ?_; rintro e w' ⟨rfl, rfl⟩) | (go_at_call 18; refine (sub_any _ _ _).mono ?_; rintro e w' ⟨rfl, rfl⟩) | (go_at_call 19; refine (mul_any _ _ _).mono ?_; rintro e w' ⟨rfl, rfl⟩) | (go_at_call 22; refine (less_any _ _ _).mono ?_; rintro e w' ⟨rfl, rfl⟩) | (go_at_call 23; refine (same_any _ _ _).mono ?_; rintro e w' ⟨rfl, rfl⟩) | (go_at_call 24; refine (and_any _ _ _).mono ?_; rintro e w' ⟨rfl, rfl⟩) | (go_at_call 25; refine (or_any _ _ _).mono ?_; rintro e w' ⟨rfl, rfl⟩) | (go_at_call 20; refine (div_any _ _ _).mono ?_; rintro e w' ⟨rfl, rfl⟩) | (go_at_call 21; refine (mod_any _ _ _).mono ?_; rintro e w' ⟨rfl, rfl⟩) | (go_at_call 13; refine (do_any _ _ _ _).mono ?_; rintro e w' ⟨rfl, rfl⟩))
      go_ret
      exact ⟨rfl, HB.out⟩
    · have n1 : wNot a = 0 := by rw [not_eq]; exact if_neg hz
      have n2 : wSame a 0 = 0 := by rw [same_eq]; exact if_neg hz
      have n3 : wNot 0 = 1 := rfl
      clear hz
      go_enter Tryd.func7, Tryd.ntmps7
      go_wp2_with (first | (go_at_call 12; refine (shown_any _ (Tab.at HT HB)).mono ?_; rintro e w' ⟨rfl, hb⟩; replace HB := hb_step HB hb; clear hb) | (go_at_call 15; refine (neg_any _ _).mono ?_; rintro e w' ⟨rfl, rfl⟩) | (go_at_call 16; refine (not_any _ _).mono ?_; rintro e w' ⟨rfl, rfl⟩) | (go_at_call 17; refine (add_any _ _ _).mono ?_; rintro e w' ⟨rfl, rfl⟩) | (go_at_call 18; refine (sub_any _ _ _).mono ?_; rintro e w' ⟨rfl, rfl⟩) | (go_at_call 19; refine (mul_any _ _ _).mono ?_; rintro e w' ⟨rfl, rfl⟩) | (go_at_call 22; refine (less_any _ _ _).mono ?_; rintro e w' ⟨rfl, rfl⟩) | (go_at_call 23; refine (same_any _ _ _).mono ?_; rintro e w' ⟨rfl, rfl⟩) | (go_at_call 24; refine (and_any _ _ _).mono ?_; rintro e w' ⟨rfl, rfl⟩) | (go_at_call 25; refine (or_any _ _ _).mono ?_; rintro e w' ⟨rfl, rfl⟩) | (go_at_call 20; refine (div_any _ _ _).mono ?_; rintro e w' ⟨rfl, rfl⟩) | (go_at_call 21; refine (mod_any _ _ _).mono ?_; rintro e w' ⟨rfl, rfl⟩) | (go_at_call 13; refine (do_any _ _ _ _).mono ?_; rintro e w' ⟨rfl, rfl⟩))
      go_ret
      exact ⟨rfl, HB.out⟩
  · have l1 : wLess a b = 0 := by rw [less_eq]; exact if_neg (by omega)
    have l2 : wSame a b = 1 := by rw [same_eq]; exact if_pos h
    have l3 : wLess b a = 0 := by rw [less_eq]; exact if_neg (by omega)
    have q1 := eqt h
    have q2 : ¬ a < b := by omega
    clear h
    by_cases hz : a = 0
    · have n1 : wNot a = 1 := by rw [not_eq]; exact if_pos hz
      have n2 : wSame a 0 = 1 := by rw [same_eq]; exact if_pos hz
      have n3 : wNot 1 = 0 := rfl
      clear hz
      go_enter Tryd.func7, Tryd.ntmps7
      go_wp2_with (first | (go_at_call 12; refine (shown_any _ (Tab.at HT HB)).mono ?_; rintro e w' ⟨rfl, hb⟩; replace HB := hb_step HB hb; clear hb) | (go_at_call 15; refine (neg_any _ _).mono ?_; rintro e w' ⟨rfl, rfl⟩) | (go_at_call 16; refine (not_any _ _).mono ?_; rintro e w' ⟨rfl, rfl⟩) | (go_at_call 17; refine (add_any _ _ _).mono ?_; rintro e w' ⟨rfl, rfl⟩) | (go_at_call 18; refine (sub_any _ _ _).mono ?_; rintro e w' ⟨rfl, rfl⟩) | (go_at_call 19; refine (mul_any _ _ _).mono ?_; rintro e w' ⟨rfl, rfl⟩) | (go_at_call 22; refine (less_any _ _ _).mono ?_; rintro e w' ⟨rfl, rfl⟩) | (go_at_call 23; refine (same_any _ _ _).mono ?_; rintro e w' ⟨rfl, rfl⟩) | (go_at_call 24; refine (and_any _ _ _).mono ?_; rintro e w' ⟨rfl, rfl⟩) | (go_at_call 25; refine (or_any _ _ _).mono ?_; rintro e w' ⟨rfl, rfl⟩) | (go_at_call 20; refine (div_any _ _ _).mono ?_; rintro e w' ⟨rfl, rfl⟩) | (go_at_call 21; refine (mod_any _ _ _).mono ?_; rintro e w' ⟨rfl, rfl⟩) | (go_at_call 13; refine (do_any _ _ _ _).mono ?_; rintro e w' ⟨rfl, rfl⟩))
      go_ret
      exact ⟨rfl, HB.out⟩
    · have n1 : wNot a = 0 := by rw [not_eq]; exact if_neg hz
      have n2 : wSame a 0 = 0 := by rw [same_eq]; exact if_neg hz
      have n3 : wNot 0 = 1 := rfl
      clear hz
      go_enter Tryd.func7, Tryd.ntmps7
      go_wp2_with (first | (go_at_call 12; refine (shown_any _ (Tab.at HT HB)).mono ?_; rintro e w' ⟨rfl, hb⟩; replace HB := hb_step HB hb; clear hb) | (go_at_call 15; refine (neg_any _ _).mono ?_; rintro e w' ⟨rfl, rfl⟩) | (go_at_call 16; refine (not_any _ _).mono ?_; rintro e w' ⟨rfl, rfl⟩) | (go_at_call 17; refine (add_any _ _ _).mono ?_; rintro e w' ⟨rfl, rfl⟩) | (go_at_call 18; refine (sub_any _ _ _).mono ?_; rintro e w' ⟨rfl, rfl⟩) | (go_at_call 19; refine (mul_any _ _ _).mono ?_; rintro e w' ⟨rfl, rfl⟩) | (go_at_call 22; refine (less_any _ _ _).mono ?_; rintro e w' ⟨rfl, rfl⟩) | (go_at_call 23; refine (same_any _ _ _).mono ?_; rintro e w' ⟨rfl, rfl⟩) | (go_at_call 24; refine (and_any _ _ _).mono ?_; rintro e w' ⟨rfl, rfl⟩) | (go_at_call 25; refine (or_any _ _ _).mono ?_; rintro e w' ⟨rfl, rfl⟩) | (go_at_call 20; refine (div_any _ _ _).mono ?_; rintro e w' ⟨rfl, rfl⟩) | (go_at_call 21; refine (mod_any _ _ _).mono ?_; rintro e w' ⟨rfl, rfl⟩) | (go_at_call 13; refine (do_any _ _ _ _).mono ?_; rintro e w' ⟨rfl, rfl⟩))
      go_ret
      exact ⟨rfl, HB.out⟩
  · have l1 : wLess a b = 0 := by rw [less_eq]; exact if_neg (by omega)
    have l2 : wSame a b = 0 := by rw [same_eq]; exact if_neg (by omega)
    have l3 : wLess b a = 1 := by rw [less_eq]; exact if_pos h
    have q1 := eqf (show a ≠ b by omega)
    have q2 : ¬ a < b := by omega
    by_cases hz : a = 0
    · have n1 : wNot a = 1 := by rw [not_eq]; exact if_pos hz
      have n2 : wSame a 0 = 1 := by rw [same_eq]; exact if_pos hz
      have n3 : wNot 1 = 0 := rfl
      clear hz
      go_enter Tryd.func7, Tryd.ntmps7
      go_wp2_with (first | (go_at_call 12; refine (shown_any _ (Tab.at HT HB)).mono ?_; rintro e w' ⟨rfl, hb⟩; replace HB := hb_step HB hb; clear hb) | (go_at_call 15; refine (neg_any _ _).mono ?_; rintro e w' ⟨rfl, rfl⟩) | (go_at_call 16; refine (not_any _ _).mono ?_; rintro e w' ⟨rfl, rfl⟩) | (go_at_call 17; refine (add_any _ _ _).mono ?_; rintro e w' ⟨rfl, rfl⟩) | (go_at_call 18; refine (sub_any _ _ _).mono ?_; rintro e w' ⟨rfl, rfl⟩) | (go_at_call 19; refine (mul_any _ _ _).mono ?_; rintro e w' ⟨rfl, rfl⟩) | (go_at_call 22; refine (less_any _ _ _).mono ?_; rintro e w' ⟨rfl, rfl⟩) | (go_at_call 23; refine (same_any _ _ _).mono ?_; rintro e w' ⟨rfl, rfl⟩) | (go_at_call 24; refine (and_any _ _ _).mono ?_; rintro e w' ⟨rfl, rfl⟩) | (go_at_call 25; refine (or_any _ _ _).mono ?_; rintro e w' ⟨rfl, rfl⟩) | (go_at_call 20; refine (div_any _ _ _).mono ?_; rintro e w' ⟨rfl, rfl⟩) | (go_at_call 21; refine (mod_any _ _ _).mono ?_; rintro e w' ⟨rfl, rfl⟩) | (go_at_call 13; refine (do_any _ _ _ _).mono ?_; rintro e w' ⟨rfl, rfl⟩))
      go_ret
      exact ⟨rfl, HB.out⟩
    · have n1 : wNot a = 0 := by rw [not_eq]; exact if_neg hz
      have n2 : wSame a 0 = 0 := by rw [same_eq]; exact if_neg hz
      have n3 : wNot 0 = 1 := rfl
      clear hz
      go_enter Tryd.func7, Tryd.ntmps7
      go_wp2_with (first | (go_at_call 12; refine (shown_any _ (Tab.at HT HB)).mono ?_; rintro e w' ⟨rfl, hb⟩; replace HB := hb_step HB hb; clear hb) | (go_at_call 15; refine (neg_any _ _).mono ?_; rintro e w' ⟨rfl, rfl⟩) | (go_at_call 16; refine (not_any _ _).mono ?_; rintro e w' ⟨rfl, rfl⟩) | (go_at_call 17; refine (add_any _ _ _).mono ?_; rintro e w' ⟨rfl, rfl⟩) | (go_at_call 18; refine (sub_any _ _ _).mono ?_; rintro e w' ⟨rfl, rfl⟩) | (go_at_call 19; refine (mul_any _ _ _).mono ?_; rintro e w' ⟨rfl, rfl⟩) | (go_at_call 22; refine (less_any _ _ _).mono ?_; rintro e w' ⟨rfl, rfl⟩) | (go_at_call 23; refine (same_any _ _ _).mono ?_; rintro e w' ⟨rfl, rfl⟩) | (go_at_call 24; refine (and_any _ _ _).mono ?_; rintro e w' ⟨rfl, rfl⟩) | (go_at_call 25; refine (or_any _ _ _).mono ?_; rintro e w' ⟨rfl, rfl⟩) | (go_at_call 20; refine (div_any _ _ _).mono ?_; rintro e w' ⟨rfl, rfl⟩) | (go_at_call 21; refine (mod_any _ _ _).mono ?_; rintro e w' ⟨rfl, rfl⟩) | (go_at_call 13; refine (do_any _ _ _ _).mono ?_; rintro e w' ⟨rfl, rfl⟩))
      go_ret
      exact ⟨rfl, HB.out⟩

set_option maxHeartbeats 8000000 in
set_option maxRecDepth 1000000 in
theorem signs_walk (a b : Int) (ha : R a) (hb : R b) (w : World) (ht : Tab w) :
    Calls Tryd.prog 10 #[.int .i64 a, .int .i64 b] w fun e w' => e = .returned (.bool true) ∧ Below w.heap.size w w' := by
  have HT := Lib.hid ht
  clear ht
  have HB := hb_start w
  have e1 := nef (neg_mul_ a b)
  have e2 := nef (neg_add_ a b)
  by_cases h : b = 0 ∨ a = -9223372036854775808 ∨ b = -9223372036854775808
  · clear ha hb
    by_cases h1 : b = 0
    · have b1 := eqt h1
      clear h h1
      go_enter Tryd.func10, Tryd.ntmps10
      go_wp2_with (first | (go_at_call 12; refine (shown_any _ (Tab.at HT HB)).mono ?_; rintro e w' ⟨rfl, hb⟩; replace HB := hb_step HB hb; clear hb) | (go_at_call 15; refine (neg_any _ _).mono ?_; rintro e w' ⟨rfl, rfl⟩) | (go_at_call 16; refine (not_any _ _).mono ?_; rintro e w' ⟨rfl, rfl⟩) | (go_at_call 17; refine (add_any _ _ _).mono ?_; rintro e w' ⟨rfl, rfl⟩) | (go_at_call 18; refine (sub_any _ _ _).mono ?_; rintro e w' ⟨rfl, rfl⟩) | (go_at_call 19; refine (mul_any _ _ _).mono ?_; rintro e w' ⟨rfl, rfl⟩) | (go_at_call 22; refine (less_any _ _ _).mono ?_; rintro e w' ⟨rfl, rfl⟩) | (go_at_call 23; refine (same_any _ _ _).mono ?_; rintro e w' ⟨rfl, rfl⟩) | (go_at_call 24; refine (and_any _ _ _).mono ?_; rintro e w' ⟨rfl, rfl⟩) | (go_at_call 25; refine (or_any _ _ _).mono ?_; rintro e w' ⟨rfl, rfl⟩) | (go_at_call 20; refine (div_any _ _ _).mono ?_; rintro e w' ⟨rfl, rfl⟩) | (go_at_call 21; refine (mod_any _ _ _).mono ?_; rintro e w' ⟨rfl, rfl⟩) | (go_at_call 13; refine (do_any _ _ _ _).mono ?_; rintro e w' ⟨rfl, rfl⟩))
      go_ret
      exact ⟨rfl, HB.out⟩
    · have b1 := eqf h1
      by_cases h2 : a = -9223372036854775808
      · have b2 := eqt h2
        clear h h1 h2
        go_enter Tryd.func10, Tryd.ntmps10
        go_wp2_with (first | (go_at_call 12; refine (shown_any _ (Tab.at HT HB)).mono ?_; rintro e w' ⟨rfl, hb⟩; replace HB := hb_step HB hb; clear hb) | (go_at_call 15; refine (neg_any _ _).mono ?_; rintro e w' ⟨rfl, rfl⟩) | (go_at_call 16; refine (not_any _ _).mono ?_; rintro e w' ⟨rfl, rfl⟩) | (go_at_call 17; refine (add_any _ _ _).mono ?_; rintro e w' ⟨rfl, rfl⟩) | (go_at_call 18; refine (sub_any _ _ _).mono ?_; rintro e w' ⟨rfl, rfl⟩) | (go_at_call 19; refine (mul_any _ _ _).mono ?_; rintro e w' ⟨rfl, rfl⟩) | (go_at_call 22; refine (less_any _ _ _).mono ?_; rintro e w' ⟨rfl, rfl⟩) | (go_at_call 23; refine (same_any _ _ _).mono ?_; rintro e w' ⟨rfl, rfl⟩) | (go_at_call 24; refine (and_any _ _ _).mono ?_; rintro e w' ⟨rfl, rfl⟩) | (go_at_call 25; refine (or_any _ _ _).mono ?_; rintro e w' ⟨rfl, rfl⟩) | (go_at_call 20; refine (div_any _ _ _).mono ?_; rintro e w' ⟨rfl, rfl⟩) | (go_at_call 21; refine (mod_any _ _ _).mono ?_; rintro e w' ⟨rfl, rfl⟩) | (go_at_call 13; refine (do_any _ _ _ _).mono ?_; rintro e w' ⟨rfl, rfl⟩))
        go_ret
        exact ⟨rfl, HB.out⟩
      · have b2 := eqf h2
        have b3 := eqt (show b = -9223372036854775808 by omega)
        clear h h1 h2
        go_enter Tryd.func10, Tryd.ntmps10
        go_wp2_with (first | (go_at_call 12; refine (shown_any _ (Tab.at HT HB)).mono ?_; rintro e w' ⟨rfl, hb⟩; replace HB := hb_step HB hb; clear hb) | (go_at_call 15; refine (neg_any _ _).mono ?_; rintro e w' ⟨rfl, rfl⟩) | (go_at_call 16; refine (not_any _ _).mono ?_; rintro e w' ⟨rfl, rfl⟩) | (go_at_call 17; refine (add_any _ _ _).mono ?_; rintro e w' ⟨rfl, rfl⟩) | (go_at_call 18; refine (sub_any _ _ _).mono ?_; rintro e w' ⟨rfl, rfl⟩) | (go_at_call 19; refine (mul_any _ _ _).mono ?_; rintro e w' ⟨rfl, rfl⟩) | (go_at_call 22; refine (less_any _ _ _).mono ?_; rintro e w' ⟨rfl, rfl⟩) | (go_at_call 23; refine (same_any _ _ _).mono ?_; rintro e w' ⟨rfl, rfl⟩) | (go_at_call 24; refine (and_any _ _ _).mono ?_; rintro e w' ⟨rfl, rfl⟩) | (go_at_call 25; refine (or_any _ _ _).mono ?_; rintro e w' ⟨rfl, rfl⟩) | (go_at_call 20; refine (div_any _ _ _).mono ?_; rintro e w' ⟨rfl, rfl⟩) | (go_at_call 21; refine (mod_any _ _ _).mono ?_; rintro e w' ⟨rfl, rfl⟩) | (go_at_call 13; refine (do_any _ _ _ _).mono ?_; rintro e w' ⟨rfl, rfl⟩))
        go_ret
        exact ⟨rfl, HB.out⟩
  · have b1 := eqf (show b ≠ 0 by omega)
    have b2 := eqf (show a ≠ -9223372036854775808 by omega)
    have b3 := eqf (show b ≠ -9223372036854775808 by omega)
    obtain ⟨d1, d2, d3, d4, d5, d6, x1, x2, x3, x4⟩ := signs_facts a b ha hb h
    have X1 := eqt x1
    have X2 := eqt x2
    have X3 := eqt x3
    have X4 := eqt x4
    clear h ha hb x1 x2 x3 x4
    generalize wrap64 (Int.tdiv a b) = q at *
    generalize Int.tmod a b = r at *
    go_enter Tryd.func10, Tryd.ntmps10
    go_wp2_with (first | (go_at_call 12; refine (shown_any _ (Tab.at HT HB)).mono ?_; rintro e w' ⟨rfl, hb⟩; replace HB := hb_step HB hb; clear hb) | (go_at_call 15; refine (neg_any _ _).mono ?_; rintro e w' ⟨rfl, rfl⟩) | (go_at_call 16; refine (not_any _ _).mono ?_; rintro e w' ⟨rfl, rfl⟩) | (go_at_call 17; refine (add_any _ _ _).mono ?_; rintro e w' ⟨rfl, rfl⟩) | (go_at_call 18; refine (sub_any _ _ _).mono ?_; rintro e w' ⟨rfl, rfl⟩) | (go_at_call 19; refine (mul_any _ _ _).mono ?_; rintro e w' ⟨rfl, rfl⟩) | (go_at_call 22; refine (less_any _ _ _).mono ?_; rintro e w' ⟨rfl, rfl⟩) | (go_at_call 23; refine (same_any _ _ _).mono ?_; rintro e w' ⟨rfl, rfl⟩) | (go_at_call 24; refine (and_any _ _ _).mono ?_; rintro e w' ⟨rfl, rfl⟩) | (go_at_call 25; refine (or_any _ _ _).mono ?_; rintro e w' ⟨rfl, rfl⟩) | (go_at_call 20; refine (div_any _ _ _).mono ?_; rintro e w' ⟨rfl, rfl⟩) | (go_at_call 21; refine (mod_any _ _ _).mono ?_; rintro e w' ⟨rfl, rfl⟩) | (go_at_call 13; refine (do_any _ _ _ _).mono ?_; rintro e w' ⟨rfl, rfl⟩))
    go_ret
    exact ⟨rfl, HB.out⟩

set_option maxHeartbeats 8000000 in
set_option maxRecDepth 1000000 in
theorem order_walk (a b c : Int) (ha : R a) (hb : R b) (hc : R c) (w : World) (ht : Tab w) :
    Calls Tryd.prog 8 #[.int .i64 a, .int .i64 b, .int .i64 c] w fun e w' => e = .returned (.bool true) ∧ Below w.heap.size w w' := by
  have HT := Lib.hid ht
  clear ht
  have HB := hb_start w
  have z1 : wLess a a = 0 := by rw [less_eq]; exact if_neg (by omega)
  have z2 : wSame a a = 1 := by rw [same_eq]; exact if_pos rfl
  rcases Int.lt_trichotomy a b with h | h | h
  · have l1 : wLess a b = 1 := by rw [less_eq]; exact if_pos (by omega)
    have s1 : wSame a b = 0 := by rw [same_eq]; exact if_neg (by omega)
    have s2 : wSame (wAdd a c) (wAdd b c) = 0 := by rw [same_eq]; exact if_neg (fun e => by have := add_inj ha hb e; omega)
    have hf : (decide (wAdd a c < a) == decide (c < 0)) = true → (decide (wAdd b c < b) == decide (c < 0)) = true → wLess (wAdd a c) (wAdd b c) = 1 := fun f1 f2 => by
      have g1 := add_plain ha hc (by have := beq_iff_eq.mp f1; exact decide_eq_decide.mp this)
      have g2 := add_plain hb hc (by have := beq_iff_eq.mp f2; exact decide_eq_decide.mp this)
      rw [g1, g2, less_eq]; exact if_pos (by omega)
    have hvs : (b < c ∧ a < c) ∨ (¬ b < c ∧ a < c) ∨ (¬ b < c ∧ ¬ a < c) := by omega
    rcases hvs with ⟨hx, hy⟩ | ⟨hx, hy⟩ | ⟨hx, hy⟩
    · have l2 : wLess b c = 1 := by rw [less_eq]; exact if_pos (by omega)
      have l3 : wLess a c = 1 := by rw [less_eq]; exact if_pos (by omega)
      clear ha hb hc h hx hy
      by_cases f1 : (decide (wAdd a c < a) == decide (c < 0)) = true
      · by_cases f2 : (decide (wAdd b c < b) == decide (c < 0)) = true
        · have l4 := hf f1 f2
          clear hf
          go_enter Tryd.func8, Tryd.ntmps8
          go_wp2_with (first | (go_at_call 12; refine (shown_any _ (Tab.at HT HB)).mono ?_; rintro e w' ⟨rfl, hb⟩; replace HB := hb_step HB hb; clear hb) | (go_at_call 15; refine (neg_any _ _).mono ?_; rintro e w' ⟨rfl, rfl⟩) | (go_at_call 16; refine (not_any _ _).mono ?_; rintro e w' ⟨rfl, rfl⟩) | (go_at_call 17; refine (add_any _ _ _).mono ?_; rintro e w' ⟨rfl, rfl⟩) | (go_at_call 18; refine (sub_any _ _ _).mono ?_; rintro e w' ⟨rfl, rfl⟩) | (go_at_call 19; refine (mul_any _ _ _).mono ?_; rintro e w' ⟨rfl, rfl⟩) | (go_at_call 22; refine (less_any _ _ _).mono ?_; rintro e w' ⟨rfl, rfl⟩) | (go_at_call 23; refine (same_any _ _ _).mono ?_; rintro e w' ⟨rfl, rfl⟩) | (go_at_call 24; refine (and_any _ _ _).mono ?_; rintro e w' ⟨rfl, rfl⟩) | (go_at_call 25; refine (or_any _ _ _).mono ?_; rintro e w' ⟨rfl, rfl⟩) | (go_at_call 20; refine (div_any _ _ _).mono ?_; rintro e w' ⟨rfl, rfl⟩) | (go_at_call 21; refine (mod_any _ _ _).mono ?_; rintro e w' ⟨rfl, rfl⟩) | (go_at_call 13; refine (do_any _ _ _ _).mono ?_; rintro e w' ⟨rfl, rfl⟩))
          go_ret
          exact ⟨rfl, HB.out⟩
        · have f2' := Bool.eq_false_iff.mpr f2
          clear hf f2
          go_enter Tryd.func8, Tryd.ntmps8
          go_wp2_with (first | (go_at_call 12; refine (shown_any _ (Tab.at HT HB)).mono ?_; rintro e w' ⟨rfl, hb⟩; replace HB := hb_step HB hb; clear hb) | (go_at_call 15; refine (neg_any _ _).mono ?_; rintro e w' ⟨rfl, rfl⟩) | (go_at_call 16; refine (not_any _ _).mono ?_; rintro e w' ⟨rfl, rfl⟩) | (go_at_call 17; refine (add_any _ _ _).mono ?_; rintro e w' ⟨rfl, rfl⟩) | (go_at_call 18; refine (sub_any _ _ _).mono ?_; rintro e w' ⟨rfl, rfl⟩) | (go_at_call 19; refine (mul_any _ _ _).mono ?_; rintro e w' ⟨rfl, rfl⟩) | (go_at_call 22; refine (less_any _ _ _).mono ?_; rintro e w' ⟨rfl, rfl⟩) | (go_at_call 23; refine (same_any _ _ _).mono ?_; rintro e w' ⟨rfl, rfl⟩) | (go_at_call 24; refine (and_any _ _ _).mono ?_; rintro e w' ⟨rfl, rfl⟩) | (go_at_call 25; refine (or_any _ _ _).mono ?_; rintro e w' ⟨rfl, rfl⟩) | (go_at_call 20; refine (div_any _ _ _).mono ?_; rintro e w' ⟨rfl, rfl⟩) | (go_at_call 21; refine (mod_any _ _ _).mono ?_; rintro e w' ⟨rfl, rfl⟩) | (go_at_call 13; refine (do_any _ _ _ _).mono ?_; rintro e w' ⟨rfl, rfl⟩))
          go_ret
          exact ⟨rfl, HB.out⟩
      · have f1' := Bool.eq_false_iff.mpr f1
        clear hf f1
        go_enter Tryd.func8, Tryd.ntmps8
        go_wp2_with (first | (go_at_call 12; refine (shown_any _ (Tab.at HT HB)).mono ?_; rintro e w' ⟨rfl, hb⟩; replace HB := hb_step HB hb; clear hb) | (go_at_call 15; refine (neg_any _ _).mono ?_; rintro e w' ⟨rfl, rfl⟩) | (go_at_call 16; refine (not_any _ _).mono ?_; rintro e w' ⟨rfl, rfl⟩) | (go_at_call 17; refine (add_any _ _ _).mono ?_; rintro e w' ⟨rfl, rfl⟩) | (go_at_call 18; refine (sub_any _ _ _).mono ?_; rintro e w' ⟨rfl, rfl⟩) | (go_at_call 19; refine (mul_any _ _ _).mono ?_; rintro e w' ⟨rfl, rfl⟩) | (go_at_call 22; refine (less_any _ _ _).mono ?_; rintro e w' ⟨rfl, rfl⟩) | (go_at_call 23; refine (same_any _ _ _).mono ?_; rintro e w' ⟨rfl, rfl⟩) | (go_at_call 24; refine (and_any _ _ _).mono ?_; rintro e w' ⟨rfl, rfl⟩) | (go_at_call 25; refine (or_any _ _ _).mono ?_; rintro e w' ⟨rfl, rfl⟩) | (go_at_call 20; refine (div_any _ _ _).mono ?_; rintro e w' ⟨rfl, rfl⟩) | (go_at_call 21; refine (mod_any _ _ _).mono ?_; rintro e w' ⟨rfl, rfl⟩) | (go_at_call 13; refine (do_any _ _ _ _).mono ?_; rintro e w' ⟨rfl, rfl⟩))
        go_ret
        exact ⟨rfl, HB.out⟩
    · have l2 : wLess b c = 0 := by rw [less_eq]; exact if_neg (by omega)
      have l3 : wLess a c = 1 := by rw [less_eq]; exact if_pos (by omega)
      clear ha hb hc h hx hy
      by_cases f1 : (decide (wAdd a c < a) == decide (c < 0)) = true
      · by_cases f2 : (decide (wAdd b c < b) == decide (c < 0)) = true
        · have l4 := hf f1 f2
          clear hf
          go_enter Tryd.func8, Tryd.ntmps8
          go_wp2_with (first | (go_at_call 12; refine (shown_any _ (Tab.at HT HB)).mono ?_; rintro e w' ⟨rfl, hb⟩; replace HB := hb_step HB hb; clear hb) | (go_at_call 15; refine (neg_any _ _).mono ?_; rintro e w' ⟨rfl, rfl⟩) | (go_at_call 16; refine (not_any _ _).mono ?_; rintro e w' ⟨rfl, rfl⟩) | (go_at_call 17; refine (add_any _ _ _).mono ?_; rintro e w' ⟨rfl, rfl⟩) | (go_at_call 18; refine (sub_any _ _ _).mono ?_; rintro e w' ⟨rfl, rfl⟩) | (go_at_call 19; refine (mul_any _ _ _).mono ?_; rintro e w' ⟨rfl, rfl⟩) | (go_at_call 22; refine (less_any _ _ _).mono ?_; rintro e w' ⟨rfl, rfl⟩) | (go_at_call 23; refine (same_any _ _ _).mono ?_; rintro e w' ⟨rfl, rfl⟩) | (go_at_call 24; refine (and_any _ _ _).mono ?_; rintro e w' ⟨rfl, rfl⟩) | (go_at_call 25; refine (or_any _ _ _).mono ?_; rintro e w' ⟨rfl, rfl⟩) | (go_at_call 20; refine (div_any _ _ _).mono ?_; rintro e w' ⟨rfl, rfl⟩) | (go_at_call 21; refine (mod_any _ _ _).mono ?_; rintro e w' ⟨rfl, rfl⟩) | (go_at_call 13; refine (do_any _ _ _ _).mono ?_; rintro e w' ⟨rfl, rfl⟩))
          go_ret
          exact ⟨rfl, HB.out⟩
        · have f2' := Bool.eq_false_iff.mpr f2
          clear hf f2
          go_enter Tryd.func8, Tryd.ntmps8
          go_wp2_with (first | (go_at_call 12; refine (shown_any _ (Tab.at HT HB)).mono ?_; rintro e w' ⟨rfl, hb⟩; replace HB := hb_step HB hb; clear hb) | (go_at_call 15; refine (neg_any _ _).mono ?_; rintro e w' ⟨rfl, rfl⟩) | (go_at_call 16; refine (not_any _ _).mono ?_; rintro e w' ⟨rfl, rfl⟩) | (go_at_call 17; refine (add_any _ _ _).mono ?_; rintro e w' ⟨rfl, rfl⟩) | (go_at_call 18; refine (sub_any _ _ _).mono ?_; rintro e w' ⟨rfl, rfl⟩) | (go_at_call 19; refine (mul_any _ _ _).mono ?_; rintro e w' ⟨rfl, rfl⟩) | (go_at_call 22; refine (less_any _ _ _).mono ?_; rintro e w' ⟨rfl, rfl⟩) | (go_at_call 23; refine (same_any _ _ _).mono ?_; rintro e w' ⟨rfl, rfl⟩) | (go_at_call 24; refine (and_any _ _ _).mono ?_; rintro e w' ⟨rfl, rfl⟩) | (go_at_call 25; refine (or_any _ _ _).mono ?_; rintro e w' ⟨rfl, rfl⟩) | (go_at_call 20; refine (div_any _ _ _).mono ?_; rintro e w' ⟨rfl, rfl⟩) | (go_at_call 21; refine (mod_any _ _ _).mono ?_; rintro e w' ⟨rfl, rfl⟩) | (go_at_call 13; refine (do_any _ _ _ _).mono ?_; rintro e w' ⟨rfl, rfl⟩))
          go_ret
          exact ⟨rfl, HB.out⟩
      · have f1' := Bool.eq_false_iff.mpr f1
        clear hf f1
        go_enter Tryd.func8, Tryd.ntmps8
        go_wp2_with (first | (go_at_call 12; refine (shown_any _ (Tab.at HT HB)).mono ?_; rintro e w' ⟨rfl, hb⟩; replace HB := hb_step HB hb; clear hb) | (go_at_call 15; refine (neg_any _ _).mono ?_; rintro e w' ⟨rfl, rfl⟩) | (go_at_call 16; refine (not_any _ _).mono ?_; rintro e w' ⟨rfl, rfl⟩) | (go_at_call 17; refine (add_any _ _ _).mono ?_; rintro e w' ⟨rfl, rfl⟩) | (go_at_call 18; refine (sub_any _ _ _).mono ?_; rintro e w' ⟨rfl, rfl⟩) | (go_at_call 19; refine (mul_any _ _ _).mono ?_; rintro e w' ⟨rfl, rfl⟩) | (go_at_call 22; refine (less_any _ _ _).mono ?_; rintro e w' ⟨rfl, rfl⟩) | (go_at_call 23; refine (same_any _ _ _).mono ?_; rintro e w' ⟨rfl, rfl⟩) | (go_at_call 24; refine (and_any _ _ _).mono ?_; rintro e w' ⟨rfl, rfl⟩) | (go_at_call 25; refine (or_any _ _ _).mono ?_; rintro e w' ⟨rfl, rfl⟩) | (go_at_call 20; refine (div_any _ _ _).mono ?_; rintro e w' ⟨rfl, rfl⟩) | (go_at_call 21; refine (mod_any _ _ _).mono ?_; rintro e w' ⟨rfl, rfl⟩) | (go_at_call 13; refine (do_any _ _ _ _).mono ?_; rintro e w' ⟨rfl, rfl⟩))
        go_ret
        exact ⟨rfl, HB.out⟩
    · have l2 : wLess b c = 0 := by rw [less_eq]; exact if_neg (by omega)
      have l3 : wLess a c = 0 := by rw [less_eq]; exact if_neg (by omega)
      clear ha hb hc h hx hy
      by_cases f1 : (decide (wAdd a c < a) == decide (c < 0)) = true
      · by_cases f2 : (decide (wAdd b c < b) == decide (c < 0)) = true
        · have l4 := hf f1 f2
          clear hf
          go_enter Tryd.func8, Tryd.ntmps8
          go_wp2_with (first | (go_at_call 12; refine (shown_any _ (Tab.at HT HB)).mono ?_; rintro e w' ⟨rfl, hb⟩; replace HB := hb_step HB hb; clear hb) | (go_at_call 15; refine (neg_any _ _).mono ?_; rintro e w' ⟨rfl, rfl⟩) | (go_at_call 16; refine (not_any _ _).mono ?_; rintro e w' ⟨rfl, rfl⟩) | (go_at_call 17; refine (add_any _ _ _).mono ?_; rintro e w' ⟨rfl, rfl⟩) | (go_at_call 18; refine (sub_any _ _ _).mono ?_; rintro e w' ⟨rfl, rfl⟩) | (go_at_call 19; refine (mul_any _ _ _).mono ?_; rintro e w' ⟨rfl, rfl⟩) | (go_at_call 22; refine (less_any _ _ _).mono ?_; rintro e w' ⟨rfl, rfl⟩) | (go_at_call 23; refine (same_any _ _ _).mono ?_; rintro e w' ⟨rfl, rfl⟩) | (go_at_call 24; refine (and_any _ _ _).mono ?_; rintro e w' ⟨rfl, rfl⟩) | (go_at_call 25; refine (or_any _ _ _).mono ?_; rintro e w' ⟨rfl, rfl⟩) | (go_at_call 20; refine (div_any _ _ _).mono ?_; rintro e w' ⟨rfl, rfl⟩) | (go_at_call 21; refine (mod_any _ _ _).mono ?_; rintro e w' ⟨rfl, rfl⟩) | (go_at_call 13; refine (do_any _ _ _ _).mono ?_; rintro e w' ⟨rfl, rfl⟩))
          go_ret
          exact ⟨rfl, HB.out⟩
        · have f2' := Bool.eq_false_iff.mpr f2
          clear hf f2
          go_enter Tryd.func8, Tryd.ntmps8
          go_wp2_with (first | (go_at_call 12; refine (shown_any _ (Tab.at HT HB)).mono ?_; rintro e w' ⟨rfl, hb⟩; replace HB := hb_step HB hb; clear hb) | (go_at_call 15; refine (neg_any _ _).mono ?_; rintro e w' ⟨rfl, rfl⟩) | (go_at_call 16; refine (not_any _ _).mono ?_; rintro e w' ⟨rfl, rfl⟩) | (go_at_call 17; refine (add_any _ _ _).mono ?_; rintro e w' ⟨rfl, rfl⟩) | (go_at_call 18; refine (sub_any _ _ _).mono ?_; rintro e w' ⟨rfl, rfl⟩) | (go_at_call 19; refine (mul_any _ _ _).mono ?_; rintro e w' ⟨rfl, rfl⟩) | (go_at_call 22; refine (less_any _ _ _).mono ?_; rintro e w' ⟨rfl, rfl⟩) | (go_at_call 23; refine (same_any _ _ _).mono ?_; rintro e w' ⟨rfl, rfl⟩) | (go_at_call 24; refine (and_any _ _ _).mono ?_; rintro e w' ⟨rfl, rfl⟩) | (go_at_call 25; refine (or_any _ _ _).mono ?_; rintro e w' ⟨rfl, rfl⟩) | (go_at_call 20; refine (div_any _ _ _).mono ?_; rintro e w' ⟨rfl, rfl⟩) | (go_at_call 21; refine (mod_any _ _ _).mono ?_; rintro e w' ⟨rfl, rfl⟩) | (go_at_call 13; refine (do_any _ _ _ _).mono ?_; rintro e w' ⟨rfl, rfl⟩))
          go_ret
          exact ⟨rfl, HB.out⟩
      · have f1' := Bool.eq_false_iff.mpr f1
        clear hf f1
        go_enter Tryd.func8, Tryd.ntmps8
        go_wp2_with (first | (go_at_call 12; refine (shown_any _ (Tab.at HT HB)).mono ?_; rintro e w' ⟨rfl, hb⟩; replace HB := hb_step HB hb; clear hb) | (go_at_call 15; refine (neg_any _ _).mono ?_; rintro e w' ⟨rfl, rfl⟩) | (go_at_call 16; refine (not_any _ _).mono ?_; rintro e w' ⟨rfl, rfl⟩) | (go_at_call 17; refine (add_any _ _ _).mono ?_; rintro e w' ⟨rfl, rfl⟩) | (go_at_call 18; refine (sub_any _ _ _).mono ?_; rintro e w' ⟨rfl, rfl⟩) | (go_at_call 19; refine (mul_any _ _ _).mono ?_; rintro e w' ⟨rfl, rfl⟩) | (go_at_call 22; refine (less_any _ _ _).mono ?_; rintro e w' ⟨rfl, rfl⟩) | (go_at_call 23; refine (same_any _ _ _).mono ?_; rintro e w' ⟨rfl, rfl⟩) | (go_at_call 24; refine (and_any _ _ _).mono ?_; rintro e w' ⟨rfl, rfl⟩) | (go_at_call 25; refine (or_any _ _ _).mono ?_; rintro e w' ⟨rfl, rfl⟩) | (go_at_call 20; refine (div_any _ _ _).mono ?_; rintro e w' ⟨rfl, rfl⟩) | (go_at_call 21; refine (mod_any _ _ _).mono ?_; rintro e w' ⟨rfl, rfl⟩) | (go_at_call 13; refine (do_any _ _ _ _).mono ?_; rintro e w' ⟨rfl, rfl⟩))
        go_ret
        exact ⟨rfl, HB.out⟩
  · have l1 : wLess a b = 0 := by rw [less_eq]; exact if_neg (by omega)
    have s1 : wSame a b = 1 := by rw [same_eq]; exact if_pos (by omega)
    have s2 : wSame (wAdd a c) (wAdd b c) = 1 := by rw [same_eq]; exact if_pos (by rw [h])
    have hf : (decide (wAdd a c < a) == decide (c < 0)) = true → (decide (wAdd b c < b) == decide (c < 0)) = true → wLess (wAdd a c) (wAdd b c) = 0 := fun f1 f2 => by
      have g1 := add_plain ha hc (by have := beq_iff_eq.mp f1; exact decide_eq_decide.mp this)
      have g2 := add_plain hb hc (by have := beq_iff_eq.mp f2; exact decide_eq_decide.mp this)
      rw [g1, g2, less_eq]; exact if_neg (by omega)
    have hvs : (b < c ∧ a < c) ∨ (¬ b < c ∧ ¬ a < c) := by omega
    rcases hvs with ⟨hx, hy⟩ | ⟨hx, hy⟩
    · have l2 : wLess b c = 1 := by rw [less_eq]; exact if_pos (by omega)
      have l3 : wLess a c = 1 := by rw [less_eq]; exact if_pos (by omega)
      clear ha hb hc h hx hy
      by_cases f1 : (decide (wAdd a c < a) == decide (c < 0)) = true
      · by_cases f2 : (decide (wAdd b c < b) == decide (c < 0)) = true
        · have l4 := hf f1 f2
          clear hf
          go_enter Tryd.func8, Tryd.ntmps8
          go_wp2_with (first | (go_at_call 12; refine (shown_any _ (Tab.at HT HB)).mono ?_; rintro e w' ⟨rfl, hb⟩; replace HB := hb_step HB hb; clear hb) | (go_at_call 15; refine (neg_any _ _).mono ?_; rintro e w' ⟨rfl, rfl⟩) | (go_at_call 16; refine (not_any _ _).mono ?_; rintro e w' ⟨rfl, rfl⟩) | (go_at_call 17; refine (add_any _ _ _).mono ?_; rintro e w' ⟨rfl, rfl⟩) | (go_at_call 18; refine (sub_any _ _ _).mono ?_; rintro e w' ⟨rfl, rfl⟩) | (go_at_call 19; refine (mul_any _ _ _).mono ?_; rintro e w' ⟨rfl, rfl⟩) | (go_at_call 22; refine (less_any _ _ _).mono ?_; rintro e w' ⟨rfl, rfl⟩) | (go_at_call 23; refine (same_any _ _ _).mono ?_; rintro e w' ⟨rfl, rfl⟩) | (go_at_call 24; refine (and_any _ _ _).mono ?_; rintro e w' ⟨rfl, rfl⟩) | (go_at_call 25; refine (or_any _ _ _).mono ?_; rintro e w' ⟨rfl, rfl⟩) | (go_at_call 20; refine (div_any _ _ _).mono ?_; rintro e w' ⟨rfl, rfl⟩) | (go_at_call 21; refine (mod_any _ _ _).mono ?_; rintro e w' ⟨rfl, rfl⟩) | (go_at_call 13; refine (do_any _ _ _ _).mono ?_; rintro e w' ⟨rfl, rfl⟩))
          go_ret
          exact ⟨rfl, HB.out⟩
        · have f2' := Bool.eq_false_iff.mpr f2
          clear hf f2
          go_enter Tryd.func8, Tryd.ntmps8
          go_wp2_with (first | (go_at_call 12; refine (shown_any _ (Tab.at HT HB)).mono ?_; rintro e w' ⟨rfl, hb⟩; replace HB := hb_step HB hb; clear hb) | (go_at_call 15; refine (neg_any _ _).mono ?_; rintro e w' ⟨rfl, rfl⟩) | (go_at_call 16; refine (not_any _ _).mono ?_; rintro e w' ⟨rfl, rfl⟩) | (go_at_call 17; refine (add_any _ _ _).mono ?_; rintro e w' ⟨rfl, rfl⟩) | (go_at_call 18; refine (sub_any _ _ _).mono ?_; rintro e w' ⟨rfl, rfl⟩) | (go_at_call 19; refine (mul_any _ _ _).mono ?_; rintro e w' ⟨rfl, rfl⟩) | (go_at_call 22; refine (less_any _ _ _).mono ?_; rintro e w' ⟨rfl, rfl⟩) | (go_at_call 23; refine (same_any _ _ _).mono ?_; rintro e w' ⟨rfl, rfl⟩) | (go_at_call 24; refine (and_any _ _ _).mono ?_; rintro e w' ⟨rfl, rfl⟩) | (go_at_call 25; refine (or_any _ _ _).mono ?_; rintro e w' ⟨rfl, rfl⟩) | (go_at_call 20; refine (div_any _ _ _).mono ?_; rintro e w' ⟨rfl, rfl⟩) | (go_at_call 21; refine (mod_any _ _ _).mono ?_; rintro e w' ⟨rfl, rfl⟩) | (go_at_call 13; refine (do_any _ _ _ _).mono ?_; rintro e w' ⟨rfl, rfl⟩))
          go_ret
          exact ⟨rfl, HB.out⟩
      · have f1' := Bool.eq_false_iff.mpr f1
        clear hf f1
        go_enter Tryd.func8, Tryd.ntmps8
        go_wp2_with (first | (go_at_call 12; refine (shown_any _ (Tab.at HT HB)).mono ?_; rintro e w' ⟨rfl, hb⟩; replace HB := hb_step HB hb; clear hb) | (go_at_call 15; refine (neg_any _ _).mono ?_; rintro e w' ⟨rfl, rfl⟩) | (go_at_call 16; refine (not_any _ _).mono ?_; rintro e w' ⟨rfl, rfl⟩) | (go_at_call 17; refine (add_any _ _ _).mono ?_; rintro e w' ⟨rfl, rfl⟩) | (go_at_call 18; refine (sub_any _ _ _).mono ?_; rintro e w' ⟨rfl, rfl⟩) | (go_at_call 19; refine (mul_any _ _ _).mono ?_; rintro e w' ⟨rfl, rfl⟩) | (go_at_call 22; refine (less_any _ _ _).mono ?_; rintro e w' ⟨rfl, rfl⟩) | (go_at_call 23; refine (same_any _ _ _).mono ?_; rintro e w' ⟨rfl, rfl⟩) | (go_at_call 24; refine (and_any _ _ _).mono ?_; rintro e w' ⟨rfl, rfl⟩) | (go_at_call 25; refine (or_any _ _ _).mono ?_; rintro e w' ⟨rfl, rfl⟩) | (go_at_call 20; refine (div_any _ _ _).mono ?_; rintro e w' ⟨rfl, rfl⟩) | (go_at_call 21; refine (mod_any _ _ _).mono ?_; rintro e w' ⟨rfl, rfl⟩) | (go_at_call 13; refine (do_any _ _ _ _).mono ?_; rintro e w' ⟨rfl, rfl⟩))
        go_ret
        exact ⟨rfl, HB.out⟩
    · have l2 : wLess b c = 0 := by rw [less_eq]; exact if_neg (by omega)
      have l3 : wLess a c = 0 := by rw [less_eq]; exact if_neg (by omega)
      clear ha hb hc h hx hy
      by_cases f1 : (decide (wAdd a c < a) == decide (c < 0)) = true
      · by_cases f2 : (decide (wAdd b c < b) == decide (c < 0)) = true
        · have l4 := hf f1 f2
          clear hf
          go_enter Tryd.func8, Tryd.ntmps8
          go_wp2_with (first | (go_at_call 12; refine (shown_any _ (Tab.at HT HB)).mono ?_; rintro e w' ⟨rfl, hb⟩; replace HB := hb_step HB hb; clear hb) | (go_at_call 15; refine (neg_any _ _).mono ?_; rintro e w' ⟨rfl, rfl⟩) | (go_at_call 16; refine (not_any _ _).mono ?_; rintro e w' ⟨rfl, rfl⟩) | (go_at_call 17; refine (add_any _ _ _).mono ?_; rintro e w' ⟨rfl, rfl⟩) | (go_at_call 18; refine (sub_any _ _ _).mono ?_; rintro e w' ⟨rfl, rfl⟩) | (go_at_call 19; refine (mul_any _ _ _).mono ?_; rintro e w' ⟨rfl, rfl⟩) | (go_at_call 22; refine (less_any _ _ _).mono ?_; rintro e w' ⟨rfl, rfl⟩) | (go_at_call 23; refine (same_any _ _ _).mono ?_; rintro e w' ⟨rfl, rfl⟩) | (go_at_call 24; refine (and_any _ _ _).mono ?_; rintro e w' ⟨rfl, rfl⟩) | (go_at_call 25; refine (or_any _ _ _).mono ?_; rintro e w' ⟨rfl, rfl⟩) | (go_at_call 20; refine (div_any _ _ _).mono ?_; rintro e w' ⟨rfl, rfl⟩) | (go_at_call 21; refine (mod_any _ _ _).mono ?_; rintro e w' ⟨rfl, rfl⟩) | (go_at_call 13; refine (do_any _ _ _ _).mono ?_; rintro e w' ⟨rfl, rfl⟩))
          go_ret
          exact ⟨rfl, HB.out⟩
        · have f2' := Bool.eq_false_iff.mpr f2
          clear hf f2
          go_enter Tryd.func8, Tryd.ntmps8
          go_wp2_with (first | (go_at_call 12; refine (shown_any _ (Tab.at HT HB)).mono ?_; rintro e w' ⟨rfl, hb⟩; replace HB := hb_step HB hb; clear hb) | (go_at_call 15; refine (neg_any _ _).mono ?_; rintro e w' ⟨rfl, rfl⟩) | (go_at_call 16; refine (not_any _ _).mono ?_; rintro e w' ⟨rfl, rfl⟩) | (go_at_call 17; refine (add_any _ _ _).mono ?_; rintro e w' ⟨rfl, rfl⟩) | (go_at_call 18; refine (sub_any _ _ _).mono ?_; rintro e w' ⟨rfl, rfl⟩) | (go_at_call 19; refine (mul_any _ _ _).mono ?_; rintro e w' ⟨rfl, rfl⟩) | (go_at_call 22; refine (less_any _ _ _).mono ?_; rintro e w' ⟨rfl, rfl⟩) | (go_at_call 23; refine (same_any _ _ _).mono ?_; rintro e w' ⟨rfl, rfl⟩) | (go_at_call 24; refine (and_any _ _ _).mono ?_; rintro e w' ⟨rfl, rfl⟩) | (go_at_call 25; refine (or_any _ _ _).mono ?_; rintro e w' ⟨rfl, rfl⟩) | (go_at_call 20; refine (div_any _ _ _).mono ?_; rintro e w' ⟨rfl, rfl⟩) | (go_at_call 21; refine (mod_any _ _ _).mono ?_; rintro e w' ⟨rfl, rfl⟩) | (go_at_call 13; refine (do_any _ _ _ _).mono ?_; rintro e w' ⟨rfl, rfl⟩))
          go_ret
          exact ⟨rfl, HB.out⟩
      · have f1' := Bool.eq_false_iff.mpr f1
        clear hf f1
        go_enter Tryd.func8, Tryd.ntmps8
        go_wp2_with (first | (go_at_call 12; refine (shown_any _ (Tab.at HT HB)).mono ?_; rintro e w' ⟨rfl, hb⟩; replace HB := hb_step HB hb; clear hb) | (go_at_call 15; refine (neg_any _ _).mono ?_; rintro e w' ⟨rfl, rfl⟩) | (go_at_call 16; refine (not_any _ _).mono ?_; rintro e w' ⟨rfl, rfl⟩) | (go_at_call 17; refine (add_any _ _ _).mono ?_; rintro e w' ⟨rfl, rfl⟩) | (go_at_call 18; refine (sub_any _ _ _).mono ?_; rintro e w' ⟨rfl, rfl⟩) | (go_at_call 19; refine (mul_any _ _ _).mono ?_; rintro e w' ⟨rfl, rfl⟩) | (go_at_call 22; refine (less_any _ _ _).mono ?_; rintro e w' ⟨rfl, rfl⟩) | (go_at_call 23; refine (same_any _ _ _).mono ?_; rintro e w' ⟨rfl, rfl⟩) | (go_at_call 24; refine (and_any _ _ _).mono ?_; rintro e w' ⟨rfl, rfl⟩) | (go_at_call 25; refine (or_any _ _ _).mono ?_; rintro e w' ⟨rfl, rfl⟩) | (go_at_call 20; refine (div_any _ _ _).mono ?_; rintro e w' ⟨rfl, rfl⟩) | (go_at_call 21; refine (mod_any _ _ _).mono ?_; rintro e w' ⟨rfl, rfl⟩) | (go_at_call 13; refine (do_any _ _ _ _).mono ?_; rintro e w' ⟨rfl, rfl⟩))
        go_ret
        exact ⟨rfl, HB.out⟩
  · have l1 : wLess a b = 0 := by rw [less_eq]; exact if_neg (by omega)
    have s1 : wSame a b = 0 := by rw [same_eq]; exact if_neg (by omega)
    have s2 : wSame (wAdd a c) (wAdd b c) = 0 := by rw [same_eq]; exact if_neg (fun e => by have := add_inj ha hb e; omega)
    have hf : (decide (wAdd a c < a) == decide (c < 0)) = true → (decide (wAdd b c < b) == decide (c < 0)) = true → wLess (wAdd a c) (wAdd b c) = 0 := fun f1 f2 => by
      have g1 := add_plain ha hc (by have := beq_iff_eq.mp f1; exact decide_eq_decide.mp this)
      have g2 := add_plain hb hc (by have := beq_iff_eq.mp f2; exact decide_eq_decide.mp this)
      rw [g1, g2, less_eq]; exact if_neg (by omega)
    have hvs : (b < c ∧ a < c) ∨ (b < c ∧ ¬ a < c) ∨ (¬ b < c ∧ ¬ a < c) := by omega
    rcases hvs with ⟨hx, hy⟩ | ⟨hx, hy⟩ | ⟨hx, hy⟩
    · have l2 : wLess b c = 1 := by rw [less_eq]; exact if_pos (by omega)
      have l3 : wLess a c = 1 := by rw [less_eq]; exact if_pos (by omega)
      clear ha hb hc h hx hy
      by_cases f1 : (decide (wAdd a c < a) == decide (c < 0)) = true
      · by_cases f2 : (decide (wAdd b c < b) == decide (c < 0)) = true
        · have l4 := hf f1 f2
          clear hf
          go_enter Tryd.func8, Tryd.ntmps8
          go_wp2_with (first | (go_at_call 12; refine (shown_any _ (Tab.at HT HB)).mono ?_; rintro e w' ⟨rfl, hb⟩; replace HB := hb_step HB hb; clear hb) | (go_at_call 15; refine (neg_any _ _).mono ?_; rintro e w' ⟨rfl, rfl⟩) | (go_at_call 16; refine (not_any _ _).mono ?_; rintro e w' ⟨rfl, rfl⟩) | (go_at_call 17; refine (add_any _ _ _).mono ?_; rintro e w' ⟨rfl, rfl⟩) | (go_at_call 18; refine (sub_any _ _ _).mono ?_; rintro e w' ⟨rfl, rfl⟩) | (go_at_call 19; refine (mul_any _ _ _).mono ?_; rintro e w' ⟨rfl, rfl⟩) | (go_at_call 22; refine (less_any _ _ _).mono ?_; rintro e w' ⟨rfl, rfl⟩) | (go_at_call 23; refine (same_any _ _ _).mono ?_; rintro e w' ⟨rfl, rfl⟩) | (go_at_call 24; refine (and_any _ _ _).mono ?_; rintro e w' ⟨rfl, rfl⟩) | (go_at_call 25; refine (or_any _ _ _).mono ?_; rintro e w' ⟨rfl, rfl⟩) | (go_at_call 20; refine (div_any _ _ _).mono ?_; rintro e w' ⟨rfl, rfl⟩) | (go_at_call 21; refine (mod_any _ _ _).mono ?_; rintro e w' ⟨rfl, rfl⟩) | (go_at_call 13; refine (do_any _ _ _ _).mono ?_; rintro e w' ⟨rfl, rfl⟩))
          go_ret
          exact ⟨rfl, HB.out⟩
        · have f2' := Bool.eq_false_iff.mpr f2
          clear hf f2
          go_enter Tryd.func8, Tryd.ntmps8
          go_wp2_with (first | (go_at_call 12; refine (shown_any _ (Tab.at HT HB)).mono ?_; rintro e w' ⟨rfl, hb⟩; replace HB := hb_step HB hb; clear hb) | (go_at_call 15; refine (neg_any _ _).mono ?_; rintro e w' ⟨rfl, rfl⟩) | (go_at_call 16; refine (not_any _ _).mono ?_; rintro e w' ⟨rfl, rfl⟩) | (go_at_call 17; refine (add_any _ _ _).mono ?_; rintro e w' ⟨rfl, rfl⟩) | (go_at_call 18; refine (sub_any _ _ _).mono ?_; rintro e w' ⟨rfl, rfl⟩) | (go_at_call 19; refine (mul_any _ _ _).mono ?_; rintro e w' ⟨rfl, rfl⟩) | (go_at_call 22; refine (less_any _ _ _).mono ?_; rintro e w' ⟨rfl, rfl⟩) | (go_at_call 23; refine (same_any _ _ _).mono ?_; rintro e w' ⟨rfl, rfl⟩) | (go_at_call 24; refine (and_any _ _ _).mono ?_; rintro e w' ⟨rfl, rfl⟩) | (go_at_call 25; refine (or_any _ _ _).mono ?_; rintro e w' ⟨rfl, rfl⟩) | (go_at_call 20; refine (div_any _ _ _).mono ?_; rintro e w' ⟨rfl, rfl⟩) | (go_at_call 21; refine (mod_any _ _ _).mono ?_; rintro e w' ⟨rfl, rfl⟩) | (go_at_call 13; refine (do_any _ _ _ _).mono ?_; rintro e w' ⟨rfl, rfl⟩))
          go_ret
          exact ⟨rfl, HB.out⟩
      · have f1' := Bool.eq_false_iff.mpr f1
        clear hf f1
        go_enter Tryd.func8, Tryd.ntmps8
        go_wp2_with (first | (go_at_call 12; refine (shown_any _ (Tab.at HT HB)).mono ?_; rintro e w' ⟨rfl, hb⟩; replace HB := hb_step HB hb; clear hb) | (go_at_call 15; refine (neg_any _ _).mono ?_; rintro e w' ⟨rfl, rfl⟩) | (go_at_call 16; refine (not_any _ _).mono ?_; rintro e w' ⟨rfl, rfl⟩) | (go_at_call 17; refine (add_any _ _ _).mono ?_; rintro e w' ⟨rfl, rfl⟩) | (go_at_call 18; refine (sub_any _ _ _).mono ?_; rintro e w' ⟨rfl, rfl⟩) | (go_at_call 19; refine (mul_any _ _ _).mono ?_; rintro e w' ⟨rfl, rfl⟩) | (go_at_call 22; refine (less_any _ _ _).mono ?_; rintro e w' ⟨rfl, rfl⟩) | (go_at_call 23; refine (same_any _ _ _).mono ?_; rintro e w' ⟨rfl, rfl⟩) | (go_at_call 24; refine (and_any _ _ _).mono ?_; rintro e w' ⟨rfl, rfl⟩) | (go_at_call 25; refine (or_any _ _ _).mono ?_; rintro e w' ⟨rfl, rfl⟩) | (go_at_call 20; refine (div_any _ _ _).mono ?_; rintro e w' ⟨rfl, rfl⟩) | (go_at_call 21; refine (mod_any _ _ _).mono ?_; rintro e w' ⟨rfl, rfl⟩) | (go_at_call 13; refine (do_any _ _ _ _).mono ?_; rintro e w' ⟨rfl, rfl⟩))
        go_ret
        exact ⟨rfl, HB.out⟩
    · have l2 : wLess b c = 1 := by rw [less_eq]; exact if_pos (by omega)
      have l3 : wLess a c = 0 := by rw [less_eq]; exact if_neg (by omega)
      clear ha hb hc h hx hy
      by_cases f1 : (decide (wAdd a c < a) == decide (c < 0)) = true
      · by_cases f2 : (decide (wAdd b c < b) == decide (c < 0)) = true
        · have l4 := hf f1 f2
          clear hf
          go_enter Tryd.func8, Tryd.ntmps8
          go_wp2_with (first | (go_at_call 12; refine (shown_any _ (Tab.at HT HB)).mono ?_; rintro e w' ⟨rfl, hb⟩; replace HB := hb_step HB hb; clear hb) | (go_at_call 15; refine (neg_any _ _).mono ?_; rintro e w' ⟨rfl, rfl⟩) | (go_at_call 16; refine (not_any _ _).mono ?_; rintro e w' ⟨rfl, rfl⟩) | (go_at_call 17; refine (add_any _ _ _).mono ?_; rintro e w' ⟨rfl, rfl⟩) | (go_at_call 18; refine (sub_any _ _ _).mono ?_; rintro e w' ⟨rfl, rfl⟩) | (go_at_call 19; refine (mul_any _ _ _).mono ?_; rintro e w' ⟨rfl, rfl⟩) | (go_at_call 22; refine (less_any _ _ _).mono ?_; rintro e w' ⟨rfl, rfl⟩) | (go_at_call 23; refine (same_any _ _ _).mono ?_; rintro e w' ⟨rfl, rfl⟩) | (go_at_call 24; refine (and_any _ _ _).mono ?_; rintro e w' ⟨rfl, rfl⟩) | (go_at_call 25; refine (or_any _ _ _).mono ?_; rintro e w' ⟨rfl, rfl⟩) | (go_at_call 20; refine (div_any _ _ _).mono ?_; rintro e w' ⟨rfl, rfl⟩) | (go_at_call 21; refine (mod_any _ _ _).mono ?_; rintro e w' ⟨rfl, rfl⟩) | (go_at_call 13; refine (do_any _ _ _ _).mono ?_; rintro e w' ⟨rfl, rfl⟩))
          go_ret
          exact ⟨rfl, HB.out⟩
        · have f2' := Bool.eq_false_iff.mpr f2
          clear hf f2
          go_enter Tryd.func8, Tryd.ntmps8
          go_wp2_with (first | (go_at_call 12; refine (shown_any _ (Tab.at HT HB)).mono ?_; rintro e w' ⟨rfl, hb⟩; replace HB := hb_step HB hb; clear hb) | (go_at_call 15; refine (neg_any _ _).mono ?_; rintro e w' ⟨rfl, rfl⟩) | (go_at_call 16; refine (not_any _ _).mono ?_; rintro e w' ⟨rfl, rfl⟩) | (go_at_call 17; refine (add_any _ _ _).mono ?_; rintro e w' ⟨rfl, rfl⟩) | (go_at_call 18; refine (sub_any _ _ _).mono ?_; rintro e w' ⟨rfl, rfl⟩) | (go_at_call 19; refine (mul_any _ _ _).mono ?_; rintro e w' ⟨rfl, rfl⟩) | (go_at_call 22; refine (less_any _ _ _).mono ?_; rintro e w' ⟨rfl, rfl⟩) | (go_at_call 23; refine (same_any _ _ _).mono ?_; rintro e w' ⟨rfl, rfl⟩) | (go_at_call 24; refine (and_any _ _ _).mono ?_; rintro e w' ⟨rfl, rfl⟩) | (go_at_call 25; refine (or_any _ _ _).mono ?_; rintro e w' ⟨rfl, rfl⟩) | (go_at_call 20; refine (div_any _ _ _).mono ?_; rintro e w' ⟨rfl, rfl⟩) | (go_at_call 21; refine (mod_any _ _ _).mono ?_; rintro e w' ⟨rfl, rfl⟩) | (go_at_call 13; refine (do_any _ _ _ _).mono ?_; rintro e w' ⟨rfl, rfl⟩))
          go_ret
          exact ⟨rfl, HB.out⟩
      · have f1' := Bool.eq_false_iff.mpr f1
        clear hf f1
        go_enter Tryd.func8, Tryd.ntmps8
        go_wp2_with (first | (go_at_call 12; refine (shown_any _ (Tab.at HT HB)).mono ?_; rintro e w' ⟨rfl, hb⟩; replace HB := hb_step HB hb; clear hb) | (go_at_call 15; refine (neg_any _ _).mono ?_; rintro e w' ⟨rfl, rfl⟩) | (go_at_call 16; refine (not_any _ _).mono ?_; rintro e w' ⟨rfl, rfl⟩) | (go_at_call 17; refine (add_any _ _ _).mono ?_; rintro e w' ⟨rfl, rfl⟩) | (go_at_call 18; refine (sub_any _ _ _).mono ?_; rintro e w' ⟨rfl, rfl⟩) | (go_at_call 19; refine (mul_any _ _ _).mono ?_; rintro e w' ⟨rfl, rfl⟩) | (go_at_call 22; refine (less_any _ _ _).mono ?_; rintro e w' ⟨rfl, rfl⟩) | (go_at_call 23; refine (same_any _ _ _).mono ?_; rintro e w' ⟨rfl, rfl⟩) | (go_at_call 24; refine (and_any _ _ _).mono ?_; rintro e w' ⟨rfl, rfl⟩) | (go_at_call 25; refine (or_any _ _ _).mono ?_; rintro e w' ⟨rfl, rfl⟩) | (go_at_call 20; refine (div_any _ _ _).mono ?_; rintro e w' ⟨rfl, rfl⟩) | (go_at_call 21; refine (mod_any _ _ _).mono ?_; rintro e w' ⟨rfl, rfl⟩) | (go_at_call 13; refine (do_any _ _ _ _).mono ?_; rintro e w' ⟨rfl, rfl⟩))
        go_ret
        exact ⟨rfl, HB.out⟩
    · have l2 : wLess b c = 0 := by rw [less_eq]; exact if_neg (by omega)
      have l3 : wLess a c = 0 := by rw [less_eq]; exact if_neg (by omega)
      clear ha hb hc h hx hy
      by_cases f1 : (decide (wAdd a c < a) == decide (c < 0)) = true
      · by_cases f2 : (decide (wAdd b c < b) == decide (c < 0)) = true
        · have l4 := hf f1 f2
          clear hf
          go_enter Tryd.func8, Tryd.ntmps8
          go_wp2_with (first | (go_at_call 12; refine (shown_any _ (Tab.at HT HB)).mono ?_; rintro e w' ⟨rfl, hb⟩; replace HB := hb_step HB hb; clear hb) | (go_at_call 15; refine (neg_any _ _).mono ?_; rintro e w' ⟨rfl, rfl⟩) | (go_at_call 16; refine (not_any _ _).mono ?_; rintro e w' ⟨rfl, rfl⟩) | (go_at_call 17; refine (add_any _ _ _).mono ?_; rintro e w' ⟨rfl, rfl⟩) | (go_at_call 18; refine (sub_any _ _ _).mono ?_; rintro e w' ⟨rfl, rfl⟩) | (go_at_call 19; refine (mul_any _ _ _).mono ?_; rintro e w' ⟨rfl, rfl⟩) | (go_at_call 22; refine (less_any _ _ _).mono ?_; rintro e w' ⟨rfl, rfl⟩) | (go_at_call 23; refine (same_any _ _ _).mono ?_; rintro e w' ⟨rfl, rfl⟩) | (go_at_call 24; refine (and_any _ _ _).mono ?_; rintro e w' ⟨rfl, rfl⟩) | (go_at_call 25; refine (or_any _ _ _).mono ?_; rintro e w' ⟨rfl, rfl⟩) | (go_at_call 20; refine (div_any _ _ _).mono ?_; rintro e w' ⟨rfl, rfl⟩) | (go_at_call 21; refine (mod_any _ _ _).mono ?_; rintro e w' ⟨rfl, rfl⟩) | (go_at_call 13; refine (do_any _ _ _ _).mono ?_; rintro e w' ⟨rfl, rfl⟩))
          go_ret
          exact ⟨rfl, HB.out⟩
        · have f2' := Bool.eq_false_iff.mpr f2
          clear hf f2
          go_enter Tryd.func8, Tryd.ntmps8
          go_wp2_with (first | (go_at_call 12; refine (shown_any _ (Tab.at HT HB)).mono ?_; rintro e w' ⟨rfl, hb⟩; replace HB := hb_step HB hb; clear hb) | (go_at_call 15; refine (neg_any _ _).mono ?_; rintro e w' ⟨rfl, rfl⟩) | (go_at_call 16; refine (not_any _ _).mono ?_; rintro e w' ⟨rfl, rfl⟩) | (go_at_call 17; refine (add_any _ _ _).mono ?_; rintro e w' ⟨rfl, rfl⟩) | (go_at_call 18; refine (sub_any _ _ _).mono ?_; rintro e w' ⟨rfl, rfl⟩) | (go_at_call 19; refine (mul_any _ _ _).mono ?_; rintro e w' ⟨rfl, rfl⟩) | (go_at_call 22; refine (less_any _ _ _).mono ?_; rintro e w' ⟨rfl, rfl⟩) | (go_at_call 23; refine (same_any _ _ _).mono ?_; rintro e w' ⟨rfl, rfl⟩) | (go_at_call 24; refine (and_any _ _ _).mono ?_; rintro e w' ⟨rfl, rfl⟩) | (go_at_call 25; refine (or_any _ _ _).mono ?_; rintro e w' ⟨rfl, rfl⟩) | (go_at_call 20; refine (div_any _ _ _).mono ?_; rintro e w' ⟨rfl, rfl⟩) | (go_at_call 21; refine (mod_any _ _ _).mono ?_; rintro e w' ⟨rfl, rfl⟩) | (go_at_call 13; refine (do_any _ _ _ _).mono ?_; rintro e w' ⟨rfl, rfl⟩))
          go_ret
          exact ⟨rfl, HB.out⟩
      · have f1' := Bool.eq_false_iff.mpr f1
        clear hf f1
        go_enter Tryd.func8, Tryd.ntmps8
        go_wp2_with (first | (go_at_call 12; refine (shown_any _ (Tab.at HT HB)).mono ?_; rintro e w' ⟨rfl, hb⟩; replace HB := hb_step HB hb; clear hb) | (go_at_call 15; refine (neg_any _ _).mono ?_; rintro e w' ⟨rfl, rfl⟩) | (go_at_call 16; refine (not_any _ _).mono ?_; rintro e w' ⟨rfl, rfl⟩) | (go_at_call 17; refine (add_any _ _ _).mono ?_; rintro e w' ⟨rfl, rfl⟩) | (go_at_call 18; refine (sub_any _ _ _).mono ?_; rintro e w' ⟨rfl, rfl⟩) | (go_at_call 19; refine (mul_any _ _ _).mono ?_; rintro e w' ⟨rfl, rfl⟩) | (go_at_call 22; refine (less_any _ _ _).mono ?_; rintro e w' ⟨rfl, rfl⟩) | (go_at_call 23; refine (same_any _ _ _).mono ?_; rintro e w' ⟨rfl, rfl⟩) | (go_at_call 24; refine (and_any _ _ _).mono ?_; rintro e w' ⟨rfl, rfl⟩) | (go_at_call 25; refine (or_any _ _ _).mono ?_; rintro e w' ⟨rfl, rfl⟩) | (go_at_call 20; refine (div_any _ _ _).mono ?_; rintro e w' ⟨rfl, rfl⟩) | (go_at_call 21; refine (mod_any _ _ _).mono ?_; rintro e w' ⟨rfl, rfl⟩) | (go_at_call 13; refine (do_any _ _ _ _).mono ?_; rintro e w' ⟨rfl, rfl⟩))
        go_ret
        exact ⟨rfl, HB.out⟩

end Go.Proofs.YtohkafjfolojcaaDoor
