/- An expression's own instruction is written; expressions are. -/
import Derived.Test.YthjjcmmonjajhaaDoorCompLands
import Derived.Test.YthjjcmmonjajhaaDoorCompSlot
namespace Go.Proofs.YthjjcmmonjajhaaDoor
open Go.RowKit Go.Sort
set_option linter.unusedVariables false

theorem cellB {w1 W : World} {b o : Nat} {v : Value} (h : Hid (Below w1.heap.size w1 W)) (hc : w1.cell? ⟨b, o, none⟩ = some v) : W.cell? ⟨b, o, none⟩ = some v := (h.out.cell (p := ⟨b, o, none⟩) (lt_of_cell hc)).trans hc
theorem Wr.cells {n0 : Nat} {W : World} {wb : Nat} {sc : SC} {vv av all : Value} {l : List VI} (h : Wr n0 W wb sc vv av all l) : W.cell? ⟨wb, 2, none⟩ = some vv ∧ W.cell? ⟨wb, 3, none⟩ = some av ∧ W.cell? ⟨wb, 4, none⟩ = some all := by
  obtain ⟨_, lv, hb, _⟩ := h
  exact ⟨cell_of_heap hb 2, cell_of_heap hb 3, cell_of_heap hb 4⟩

set_option maxHeartbeats 4000000 in
set_option maxRecDepth 1000000 in
theorem wexpr_1 (n0 wb : Nat) (sc : SC) (all : List SC) (xa xb xc : Option Addr) (xn xm yn ym zn zm : Nat) (l : List VI) (W : World) (hw : Wr n0 W wb sc (.slice xa xn xm) (.slice xb yn ym) (.slice xc zn zm) l) (hn : n0 ≤ W.heap.size) (hl : l.length ≤ 4194304)
    (hv : TSl W (.slice xa xn xm) sc.vars) (ha : TSl W (.slice xb yn ym) sc.arrays) (hs : CSl W (.slice xc zn zm) all) (n : Int) (s : ByteArray) (pa : Option Addr) (pn pc : Nat) :
    Calls Tryd.prog 46 #[.pointer (some ⟨wb, 0, none⟩), .agg #[.int .i64 1, .int .i64 n, .string s, .slice pa pn pc]] W fun e w' => e = .returned (.tuple #[]) ∧ Wk n0 wb W w' ∧ Wr n0 w' wb sc (.slice xa xn xm) (.slice xb yn ym) (.slice xc zn zm) (l ++ [⟨1, 0, n⟩]) := by
  have HW := Lib.hid hw
  have HV := Lib.hid hv
  have HA := Lib.hid ha
  have HS := Lib.hid hs
  have hbl : Below W.heap.size W (W.alloc (.cells #[.int .i64 1, .int .i64 n, .string s, .slice pa pn pc] 51)) := (Below.refl _ _).alloc (Nat.le_refl _) _
  have HBL := Lib.hid hbl
  clear hw hv ha hs hbl
  go_enter Tryd.func46, Tryd.ntmps46
  go_wp2_with (go_at_call 15; refine (put_r n0 wb sc (.slice xa xn xm) (.slice xb yn ym) (.slice xc zn zm) l 1 0 n _ (HW.out.stay HBL.out) hl).mono ?_; rintro e w' ⟨rfl, hk, hr⟩; have HK := Lib.hid hk; have HR := Lib.hid hr; clear hk hr)
  go_end0
  exact ⟨rfl, (Wk.of_below hn HBL.out).trans HK.out, HR.out⟩

set_option maxHeartbeats 4000000 in
set_option maxRecDepth 1000000 in
theorem wexpr_3 (n0 wb : Nat) (sc : SC) (all : List SC) (xa xb xc : Option Addr) (xn xm yn ym zn zm : Nat) (l : List VI) (W : World) (hw : Wr n0 W wb sc (.slice xa xn xm) (.slice xb yn ym) (.slice xc zn zm) l) (hn : n0 ≤ W.heap.size) (hl : l.length ≤ 4194304)
    (hv : TSl W (.slice xa xn xm) sc.vars) (ha : TSl W (.slice xb yn ym) sc.arrays) (hs : CSl W (.slice xc zn zm) all) (n : Int) (s : ByteArray) (pa : Option Addr) (pn pc : Nat) :
    Calls Tryd.prog 46 #[.pointer (some ⟨wb, 0, none⟩), .agg #[.int .i64 3, .int .i64 n, .string s, .slice pa pn pc]] W fun e w' => e = .returned (.tuple #[]) ∧ Wk n0 wb W w' ∧ Wr n0 w' wb sc (.slice xa xn xm) (.slice xb yn ym) (.slice xc zn zm) (l ++ [⟨25, 0, 0⟩]) := by
  have HW := Lib.hid hw
  have HV := Lib.hid hv
  have HA := Lib.hid ha
  have HS := Lib.hid hs
  have hbl : Below W.heap.size W (W.alloc (.cells #[.int .i64 3, .int .i64 n, .string s, .slice pa pn pc] 51)) := (Below.refl _ _).alloc (Nat.le_refl _) _
  have HBL := Lib.hid hbl
  clear hw hv ha hs hbl
  go_enter Tryd.func46, Tryd.ntmps46
  go_wp2_with (go_at_call 15; refine (put_r n0 wb sc (.slice xa xn xm) (.slice xb yn ym) (.slice xc zn zm) l 25 0 0 _ (HW.out.stay HBL.out) hl).mono ?_; rintro e w' ⟨rfl, hk, hr⟩; have HK := Lib.hid hk; have HR := Lib.hid hr; clear hk hr)
  go_end0
  exact ⟨rfl, (Wk.of_below hn HBL.out).trans HK.out, HR.out⟩

set_option maxHeartbeats 4000000 in
set_option maxRecDepth 1000000 in
theorem wexpr_2 (n0 wb : Nat) (sc : SC) (all : List SC) (xa xb xc : Option Addr) (xn xm yn ym zn zm : Nat) (l : List VI) (W : World) (hw : Wr n0 W wb sc (.slice xa xn xm) (.slice xb yn ym) (.slice xc zn zm) l) (hn : n0 ≤ W.heap.size) (hl : l.length ≤ 4194304)
    (hv : TSl W (.slice xa xn xm) sc.vars) (ha : TSl W (.slice xb yn ym) sc.arrays) (hs : CSl W (.slice xc zn zm) all) (n : Int) (s : ByteArray) (pa : Option Addr) (pn pc : Nat) :
    Calls Tryd.prog 46 #[.pointer (some ⟨wb, 0, none⟩), .agg #[.int .i64 2, .int .i64 n, .string s, .slice pa pn pc]] W fun e w' => e = .returned (.tuple #[]) ∧ Wk n0 wb W w' ∧ Wr n0 w' wb sc (.slice xa xn xm) (.slice xb yn ym) (.slice xc zn zm) (l ++ [⟨2, slotI sc.vars s, 0⟩]) := by
  have HW := Lib.hid hw
  have HV := Lib.hid hv
  have HA := Lib.hid ha
  have HS := Lib.hid hs
  have hbl : Below W.heap.size W (W.alloc (.cells #[.int .i64 2, .int .i64 n, .string s, .slice pa pn pc] 51)) := (Below.refl _ _).alloc (Nat.le_refl _) _
  have HBL := Lib.hid hbl
  clear hw hv ha hs hbl
  obtain ⟨q, hq⟩ : ∃ q, slotI sc.vars s = q := ⟨_, rfl⟩
  have HQ := Lib.hid hq
  rw [hq]
  clear hq
  obtain ⟨c2, c3, c4⟩ := (HW.out.stay HBL.out).cells
  have b2 : (W.alloc (.cells #[.int .i64 2, .int .i64 n, .string s, .slice pa pn pc] 51)).cell? ⟨W.heap.size, 2, none⟩ = some (.string s) := by simp
  have HC := Lib.hid c2
  have HB2 := Lib.hid b2
  clear c2 c3 c4 b2
  go_enter Tryd.func46, Tryd.ntmps46
  go_upto_region 6 with fail
  generalize W.alloc (.cells #[.int .i64 2, .int .i64 n, .string s, .slice pa pn pc] 51) = W1 at HBL HC HB2 ⊢
  refine region_flow rfl 9 rfl (by decide +kernel) [20, 21, 22, 23, 24, 25, 26, 27, 28] (by decide +kernel) rfl (by decide) (by simp) (fun w w' => Below w.heap.size w w') (fun w => Below W1.heap.size W1 w)
    (fun j v _ => v = ([.pointer (some ⟨wb, 0, none⟩), .pointer (some ⟨wb, 0, none⟩), .pointer (some ⟨wb, 0, none⟩), .pointer (some ⟨wb, 0, none⟩), .pointer (some ⟨wb, 2, none⟩), .slice xa xn xm, .pointer (some ⟨W.heap.size, 2, none⟩), .string s, .int .i64 q] : List Value).getD j undef) (fun _ _ _ _ _ h => h) ?hr6 ?hs6 ?hl6
  case hs6 =>
    intro ix hix a wx hR hout hdep
    have hix' : ix = 0 ∨ ix = 1 ∨ ix = 2 ∨ ix = 3 ∨ ix = 4 ∨ ix = 5 ∨ ix = 6 ∨ ix = 7 ∨ ix = 8 := by omega
    rcases hix' with rfl | rfl | rfl | rfl | rfl | rfl | rfl | rfl | rfl
    · have HR := Lib.hid hR
      clear hR
      have e0 := hout 0 (by decide)
      clear hout hdep
      refine op_list (by rfl) ?_
      go_wp2
      exact withK_intro ⟨_, rfl, Below.refl _ _, HR.out, rfl⟩
    · have HR := Lib.hid hR
      clear hR
      have e0 := hout 0 (by decide)
      clear hout hdep
      refine op_list (by rfl) ?_
      go_wp2
      exact withK_intro ⟨_, rfl, Below.refl _ _, HR.out, rfl⟩
    · have HR := Lib.hid hR
      clear hR
      have e21 : a.tmps[21]? = some (.pointer (some ⟨wb, 0, none⟩)) := flow_dep hdep 1 21 (by kernel_rfl) rfl
      clear hout hdep
      refine op_list (by rfl) ?_
      go_wp2
      exact withK_intro ⟨_, rfl, Below.refl _ _, HR.out, rfl⟩
    · have HR := Lib.hid hR
      clear hR
      have e22 : a.tmps[22]? = some (.pointer (some ⟨wb, 0, none⟩)) := flow_dep hdep 2 22 (by kernel_rfl) rfl
      clear hout hdep
      refine op_list (by rfl) ?_
      go_wp2
      exact withK_intro ⟨_, rfl, Below.refl _ _, HR.out, rfl⟩
    · have HR := Lib.hid hR
      clear hR
      have e23 : a.tmps[23]? = some (.pointer (some ⟨wb, 0, none⟩)) := flow_dep hdep 3 23 (by kernel_rfl) rfl
      clear hout hdep
      refine op_list (by rfl) ?_
      go_wp2
      exact withK_intro ⟨_, rfl, Below.refl _ _, HR.out, rfl⟩
    · have HR := Lib.hid hR
      clear hR
      have e24 : a.tmps[24]? = some (.pointer (some ⟨wb, 2, none⟩)) := flow_dep hdep 4 24 (by kernel_rfl) rfl
      have c2 := cellB HR HC.out
      clear hout hdep
      refine op_list (by rfl) ?_
      go_wp2
      exact withK_intro ⟨_, rfl, Below.refl _ _, HR.out, rfl⟩
    · have HR := Lib.hid hR
      clear hR
      have e3 := hout 3 (by decide)
      clear hout hdep
      refine op_list (by rfl) ?_
      go_wp2
      exact withK_intro ⟨_, rfl, Below.refl _ _, HR.out, rfl⟩
    · have HR := Lib.hid hR
      clear hR
      have e26 : a.tmps[26]? = some (.pointer (some ⟨W.heap.size, 2, none⟩)) := flow_dep hdep 6 26 (by kernel_rfl) rfl
      have b2 := cellB HR HB2.out
      clear hout hdep
      refine op_list (by rfl) ?_
      go_wp2
      exact withK_intro ⟨_, rfl, Below.refl _ _, HR.out, rfl⟩
    · have HR := Lib.hid hR
      clear hR
      have e25 : a.tmps[25]? = some (.slice xa xn xm) := flow_dep hdep 5 25 (by kernel_rfl) rfl
      have e27 : a.tmps[27]? = some (.string s) := flow_dep hdep 7 27 (by kernel_rfl) rfl
      clear hout hdep
      refine op_list (by rfl) ?_
      go_wp2_with (go_at_call 29; refine (slot_r _ sc.vars s _ (HV.out.stay (hb_step HBL HR.out)) _ HQ.out).mono ?_; rintro e w' ⟨rfl, rfl⟩)
      exact withK_intro ⟨_, rfl, Below.refl _ _, HR.out, rfl⟩
  case hl6 =>
    intro vs wx hR hφ
    have HR := Lib.hid hR
    clear hR
    rw [fill_congr _ [20, 21, 22, 23, 24, 25, 26, 27, 28] vs (fun j => ([.pointer (some ⟨wb, 0, none⟩), .pointer (some ⟨wb, 0, none⟩), .pointer (some ⟨wb, 0, none⟩), .pointer (some ⟨wb, 0, none⟩), .pointer (some ⟨wb, 2, none⟩), .slice xa xn xm, .pointer (some ⟨W.heap.size, 2, none⟩), .string s, .int .i64 q] : List Value).getD j undef) (fun j hj => hφ j hj)]
    clear hφ vs
    refine op_list (by rfl) ?_
    simp only [fill, fillA, List.getD_cons_zero, List.getD_cons_succ, Nat.reduceAdd]
    have HBW : Hid (Below W.heap.size W wx) := hb_step HBL HR.out
    go_wp2_with (go_at_call 15; refine (put_r n0 wb sc (.slice xa xn xm) (.slice xb yn ym) (.slice xc zn zm) l 2 q 0 _ (HW.out.stay HBW.out) hl).mono ?_; rintro e w' ⟨rfl, hk, hr⟩; have HK := Lib.hid hk; have HRR := Lib.hid hr; clear hk hr)
    refine withK_intro ?_
    go_wp2
    go_end0
    exact ⟨rfl, (Wk.of_below hn HBW.out).trans HK.out, HRR.out⟩
  case hr6 => exact (Below.refl _ _).drew

set_option maxHeartbeats 4000000 in
set_option maxRecDepth 1000000 in
theorem wexpr_4 (n0 wb : Nat) (sc : SC) (all : List SC) (xa xb xc : Option Addr) (xn xm yn ym zn zm : Nat) (l : List VI) (W : World) (hw : Wr n0 W wb sc (.slice xa xn xm) (.slice xb yn ym) (.slice xc zn zm) l) (hn : n0 ≤ W.heap.size) (hl : l.length ≤ 4194304)
    (hv : TSl W (.slice xa xn xm) sc.vars) (ha : TSl W (.slice xb yn ym) sc.arrays) (hs : CSl W (.slice xc zn zm) all) (n : Int) (s : ByteArray) (pa : Option Addr) (pn pc : Nat) :
    Calls Tryd.prog 46 #[.pointer (some ⟨wb, 0, none⟩), .agg #[.int .i64 4, .int .i64 n, .string s, .slice pa pn pc]] W fun e w' => e = .returned (.tuple #[]) ∧ Wk n0 wb W w' ∧ Wr n0 w' wb sc (.slice xa xn xm) (.slice xb yn ym) (.slice xc zn zm) (l ++ [⟨23, slotI sc.arrays s, 0⟩]) := by
  have HW := Lib.hid hw
  have HV := Lib.hid hv
  have HA := Lib.hid ha
  have HS := Lib.hid hs
  have hbl : Below W.heap.size W (W.alloc (.cells #[.int .i64 4, .int .i64 n, .string s, .slice pa pn pc] 51)) := (Below.refl _ _).alloc (Nat.le_refl _) _
  have HBL := Lib.hid hbl
  clear hw hv ha hs hbl
  obtain ⟨q, hq⟩ : ∃ q, slotI sc.arrays s = q := ⟨_, rfl⟩
  have HQ := Lib.hid hq
  rw [hq]
  clear hq
  obtain ⟨c2, c3, c4⟩ := (HW.out.stay HBL.out).cells
  have b2 : (W.alloc (.cells #[.int .i64 4, .int .i64 n, .string s, .slice pa pn pc] 51)).cell? ⟨W.heap.size, 2, none⟩ = some (.string s) := by simp
  have HC := Lib.hid c3
  have HB2 := Lib.hid b2
  clear c2 c3 c4 b2
  go_enter Tryd.func46, Tryd.ntmps46
  go_upto_region 10 with fail
  generalize W.alloc (.cells #[.int .i64 4, .int .i64 n, .string s, .slice pa pn pc] 51) = W1 at HBL HC HB2 ⊢
  refine region_flow rfl 9 rfl (by decide +kernel) [36, 37, 38, 39, 40, 41, 42, 43, 44] (by decide +kernel) rfl (by decide) (by simp) (fun w w' => Below w.heap.size w w') (fun w => Below W1.heap.size W1 w)
    (fun j v _ => v = ([.pointer (some ⟨wb, 0, none⟩), .pointer (some ⟨wb, 0, none⟩), .pointer (some ⟨wb, 0, none⟩), .pointer (some ⟨wb, 0, none⟩), .pointer (some ⟨wb, 3, none⟩), .slice xb yn ym, .pointer (some ⟨W.heap.size, 2, none⟩), .string s, .int .i64 q] : List Value).getD j undef) (fun _ _ _ _ _ h => h) ?hr10 ?hs10 ?hl10
  case hs10 =>
    intro ix hix a wx hR hout hdep
    have hix' : ix = 0 ∨ ix = 1 ∨ ix = 2 ∨ ix = 3 ∨ ix = 4 ∨ ix = 5 ∨ ix = 6 ∨ ix = 7 ∨ ix = 8 := by omega
    rcases hix' with rfl | rfl | rfl | rfl | rfl | rfl | rfl | rfl | rfl
    · have HR := Lib.hid hR
      clear hR
      have e0 := hout 0 (by decide)
      clear hout hdep
      refine op_list (by rfl) ?_
      go_wp2
      exact withK_intro ⟨_, rfl, Below.refl _ _, HR.out, rfl⟩
    · have HR := Lib.hid hR
      clear hR
      have e0 := hout 0 (by decide)
      clear hout hdep
      refine op_list (by rfl) ?_
      go_wp2
      exact withK_intro ⟨_, rfl, Below.refl _ _, HR.out, rfl⟩
    · have HR := Lib.hid hR
      clear hR
      have e37 : a.tmps[37]? = some (.pointer (some ⟨wb, 0, none⟩)) := flow_dep hdep 1 37 (by kernel_rfl) rfl
      clear hout hdep
      refine op_list (by rfl) ?_
      go_wp2
      exact withK_intro ⟨_, rfl, Below.refl _ _, HR.out, rfl⟩
    · have HR := Lib.hid hR
      clear hR
      have e38 : a.tmps[38]? = some (.pointer (some ⟨wb, 0, none⟩)) := flow_dep hdep 2 38 (by kernel_rfl) rfl
      clear hout hdep
      refine op_list (by rfl) ?_
      go_wp2
      exact withK_intro ⟨_, rfl, Below.refl _ _, HR.out, rfl⟩
    · have HR := Lib.hid hR
      clear hR
      have e39 : a.tmps[39]? = some (.pointer (some ⟨wb, 0, none⟩)) := flow_dep hdep 3 39 (by kernel_rfl) rfl
      clear hout hdep
      refine op_list (by rfl) ?_
      go_wp2
      exact withK_intro ⟨_, rfl, Below.refl _ _, HR.out, rfl⟩
    · have HR := Lib.hid hR
      clear hR
      have e40 : a.tmps[40]? = some (.pointer (some ⟨wb, 3, none⟩)) := flow_dep hdep 4 40 (by kernel_rfl) rfl
      have c2 := cellB HR HC.out
      clear hout hdep
      refine op_list (by rfl) ?_
      go_wp2
      exact withK_intro ⟨_, rfl, Below.refl _ _, HR.out, rfl⟩
    · have HR := Lib.hid hR
      clear hR
      have e3 := hout 3 (by decide)
      clear hout hdep
      refine op_list (by rfl) ?_
      go_wp2
      exact withK_intro ⟨_, rfl, Below.refl _ _, HR.out, rfl⟩
    · have HR := Lib.hid hR
      clear hR
      have e42 : a.tmps[42]? = some (.pointer (some ⟨W.heap.size, 2, none⟩)) := flow_dep hdep 6 42 (by kernel_rfl) rfl
      have b2 := cellB HR HB2.out
      clear hout hdep
      refine op_list (by rfl) ?_
      go_wp2
      exact withK_intro ⟨_, rfl, Below.refl _ _, HR.out, rfl⟩
    · have HR := Lib.hid hR
      clear hR
      have e41 : a.tmps[41]? = some (.slice xb yn ym) := flow_dep hdep 5 41 (by kernel_rfl) rfl
      have e43 : a.tmps[43]? = some (.string s) := flow_dep hdep 7 43 (by kernel_rfl) rfl
      clear hout hdep
      refine op_list (by rfl) ?_
      go_wp2_with (go_at_call 29; refine (slot_r _ sc.arrays s _ (HA.out.stay (hb_step HBL HR.out)) _ HQ.out).mono ?_; rintro e w' ⟨rfl, rfl⟩)
      exact withK_intro ⟨_, rfl, Below.refl _ _, HR.out, rfl⟩
  case hl10 =>
    intro vs wx hR hφ
    have HR := Lib.hid hR
    clear hR
    rw [fill_congr _ [36, 37, 38, 39, 40, 41, 42, 43, 44] vs (fun j => ([.pointer (some ⟨wb, 0, none⟩), .pointer (some ⟨wb, 0, none⟩), .pointer (some ⟨wb, 0, none⟩), .pointer (some ⟨wb, 0, none⟩), .pointer (some ⟨wb, 3, none⟩), .slice xb yn ym, .pointer (some ⟨W.heap.size, 2, none⟩), .string s, .int .i64 q] : List Value).getD j undef) (fun j hj => hφ j hj)]
    clear hφ vs
    refine op_list (by rfl) ?_
    simp only [fill, fillA, List.getD_cons_zero, List.getD_cons_succ, Nat.reduceAdd]
    have HBW : Hid (Below W.heap.size W wx) := hb_step HBL HR.out
    go_wp2_with (go_at_call 15; refine (put_r n0 wb sc (.slice xa xn xm) (.slice xb yn ym) (.slice xc zn zm) l 23 q 0 _ (HW.out.stay HBW.out) hl).mono ?_; rintro e w' ⟨rfl, hk, hr⟩; have HK := Lib.hid hk; have HRR := Lib.hid hr; clear hk hr)
    refine withK_intro ?_
    go_wp2
    go_end0
    exact ⟨rfl, (Wk.of_below hn HBW.out).trans HK.out, HRR.out⟩
  case hr10 => exact (Below.refl _ _).drew

set_option maxHeartbeats 4000000 in
set_option maxRecDepth 1000000 in
theorem wexpr_5 (n0 wb : Nat) (sc : SC) (all : List SC) (xa xb xc : Option Addr) (xn xm yn ym zn zm : Nat) (l : List VI) (W : World) (hw : Wr n0 W wb sc (.slice xa xn xm) (.slice xb yn ym) (.slice xc zn zm) l) (hn : n0 ≤ W.heap.size) (hl : l.length ≤ 4194304)
    (hv : TSl W (.slice xa xn xm) sc.vars) (ha : TSl W (.slice xb yn ym) sc.arrays) (hs : CSl W (.slice xc zn zm) all) (n : Int) (s : ByteArray) (pa : Option Addr) (pn pc : Nat) :
    Calls Tryd.prog 46 #[.pointer (some ⟨wb, 0, none⟩), .agg #[.int .i64 5, .int .i64 n, .string s, .slice pa pn pc]] W fun e w' => e = .returned (.tuple #[]) ∧ Wk n0 wb W w' ∧ Wr n0 w' wb sc (.slice xa xn xm) (.slice xb yn ym) (.slice xc zn zm) (l ++ [⟨17, findI all s, 0⟩]) := by
  have HW := Lib.hid hw
  have HV := Lib.hid hv
  have HA := Lib.hid ha
  have HS := Lib.hid hs
  have hbl : Below W.heap.size W (W.alloc (.cells #[.int .i64 5, .int .i64 n, .string s, .slice pa pn pc] 51)) := (Below.refl _ _).alloc (Nat.le_refl _) _
  have HBL := Lib.hid hbl
  clear hw hv ha hs hbl
  obtain ⟨q, hq⟩ : ∃ q, findI all s = q := ⟨_, rfl⟩
  have HQ := Lib.hid hq
  rw [hq]
  clear hq
  obtain ⟨c2, c3, c4⟩ := (HW.out.stay HBL.out).cells
  have b2 : (W.alloc (.cells #[.int .i64 5, .int .i64 n, .string s, .slice pa pn pc] 51)).cell? ⟨W.heap.size, 2, none⟩ = some (.string s) := by simp
  have HC := Lib.hid c4
  have HB2 := Lib.hid b2
  clear c2 c3 c4 b2
  go_enter Tryd.func46, Tryd.ntmps46
  go_upto_region 12 with fail
  generalize W.alloc (.cells #[.int .i64 5, .int .i64 n, .string s, .slice pa pn pc] 51) = W1 at HBL HC HB2 ⊢
  refine region_flow rfl 8 rfl (by decide +kernel) [48, 49, 50, 51, 52, 53, 54, 55] (by decide +kernel) rfl (by decide) (by simp) (fun w w' => Below w.heap.size w w') (fun w => Below W1.heap.size W1 w)
    (fun j v _ => v = ([.pointer (some ⟨wb, 0, none⟩), .pointer (some ⟨wb, 0, none⟩), .pointer (some ⟨wb, 0, none⟩), .pointer (some ⟨wb, 4, none⟩), .slice xc zn zm, .pointer (some ⟨W.heap.size, 2, none⟩), .string s, .int .i64 q] : List Value).getD j undef) (fun _ _ _ _ _ h => h) ?hr12 ?hs12 ?hl12
  case hs12 =>
    intro ix hix a wx hR hout hdep
    have hix' : ix = 0 ∨ ix = 1 ∨ ix = 2 ∨ ix = 3 ∨ ix = 4 ∨ ix = 5 ∨ ix = 6 ∨ ix = 7 := by omega
    rcases hix' with rfl | rfl | rfl | rfl | rfl | rfl | rfl | rfl
    · have HR := Lib.hid hR
      clear hR
      have e0 := hout 0 (by decide)
      clear hout hdep
      refine op_list (by rfl) ?_
      go_wp2
      exact withK_intro ⟨_, rfl, Below.refl _ _, HR.out, rfl⟩
    · have HR := Lib.hid hR
      clear hR
      have e0 := hout 0 (by decide)
      clear hout hdep
      refine op_list (by rfl) ?_
      go_wp2
      exact withK_intro ⟨_, rfl, Below.refl _ _, HR.out, rfl⟩
    · have HR := Lib.hid hR
      clear hR
      have e49 : a.tmps[49]? = some (.pointer (some ⟨wb, 0, none⟩)) := flow_dep hdep 1 49 (by kernel_rfl) rfl
      clear hout hdep
      refine op_list (by rfl) ?_
      go_wp2
      exact withK_intro ⟨_, rfl, Below.refl _ _, HR.out, rfl⟩
    · have HR := Lib.hid hR
      clear hR
      have e50 : a.tmps[50]? = some (.pointer (some ⟨wb, 0, none⟩)) := flow_dep hdep 2 50 (by kernel_rfl) rfl
      clear hout hdep
      refine op_list (by rfl) ?_
      go_wp2
      exact withK_intro ⟨_, rfl, Below.refl _ _, HR.out, rfl⟩
    · have HR := Lib.hid hR
      clear hR
      have e51 : a.tmps[51]? = some (.pointer (some ⟨wb, 4, none⟩)) := flow_dep hdep 3 51 (by kernel_rfl) rfl
      have c2 := cellB HR HC.out
      clear hout hdep
      refine op_list (by rfl) ?_
      go_wp2
      exact withK_intro ⟨_, rfl, Below.refl _ _, HR.out, rfl⟩
    · have HR := Lib.hid hR
      clear hR
      have e3 := hout 3 (by decide)
      clear hout hdep
      refine op_list (by rfl) ?_
      go_wp2
      exact withK_intro ⟨_, rfl, Below.refl _ _, HR.out, rfl⟩
    · have HR := Lib.hid hR
      clear hR
      have e53 : a.tmps[53]? = some (.pointer (some ⟨W.heap.size, 2, none⟩)) := flow_dep hdep 5 53 (by kernel_rfl) rfl
      have b2 := cellB HR HB2.out
      clear hout hdep
      refine op_list (by rfl) ?_
      go_wp2
      exact withK_intro ⟨_, rfl, Below.refl _ _, HR.out, rfl⟩
    · have HR := Lib.hid hR
      clear hR
      have e52 : a.tmps[52]? = some (.slice xc zn zm) := flow_dep hdep 4 52 (by kernel_rfl) rfl
      have e54 : a.tmps[54]? = some (.string s) := flow_dep hdep 6 54 (by kernel_rfl) rfl
      clear hout hdep
      refine op_list (by rfl) ?_
      go_wp2_with (go_at_call 62; refine (find_r _ all s _ (HS.out.stay (hb_step HBL HR.out)) _ HQ.out).mono ?_; rintro e w' ⟨rfl, hb⟩; have HBc := Lib.hid hb; clear hb)
      exact withK_intro ⟨_, rfl, HBc.out, HR.out.trans (HBc.out.mono HR.out.size), rfl⟩
  case hl12 =>
    intro vs wx hR hφ
    have HR := Lib.hid hR
    clear hR
    rw [fill_congr _ [48, 49, 50, 51, 52, 53, 54, 55] vs (fun j => ([.pointer (some ⟨wb, 0, none⟩), .pointer (some ⟨wb, 0, none⟩), .pointer (some ⟨wb, 0, none⟩), .pointer (some ⟨wb, 4, none⟩), .slice xc zn zm, .pointer (some ⟨W.heap.size, 2, none⟩), .string s, .int .i64 q] : List Value).getD j undef) (fun j hj => hφ j hj)]
    clear hφ vs
    refine op_list (by rfl) ?_
    simp only [fill, fillA, List.getD_cons_zero, List.getD_cons_succ, Nat.reduceAdd]
    have HBW : Hid (Below W.heap.size W wx) := hb_step HBL HR.out
    go_wp2_with (go_at_call 15; refine (put_r n0 wb sc (.slice xa xn xm) (.slice xb yn ym) (.slice xc zn zm) l 17 q 0 _ (HW.out.stay HBW.out) hl).mono ?_; rintro e w' ⟨rfl, hk, hr⟩; have HK := Lib.hid hk; have HRR := Lib.hid hr; clear hk hr)
    refine withK_intro ?_
    go_wp2
    go_end0
    exact ⟨rfl, (Wk.of_below hn HBW.out).trans HK.out, HRR.out⟩
  case hr12 => exact (Below.refl _ _).drew

set_option maxHeartbeats 4000000 in
set_option maxRecDepth 1000000 in
theorem wexpr_6 (n0 wb : Nat) (sc : SC) (all : List SC) (xa xb xc : Option Addr) (xn xm yn ym zn zm : Nat) (l : List VI) (W : World) (hw : Wr n0 W wb sc (.slice xa xn xm) (.slice xb yn ym) (.slice xc zn zm) l) (hn : n0 ≤ W.heap.size) (hl : l.length ≤ 4194304)
    (hv : TSl W (.slice xa xn xm) sc.vars) (ha : TSl W (.slice xb yn ym) sc.arrays) (hs : CSl W (.slice xc zn zm) all) (o n : Int) (s : ByteArray) (pa : Option Addr) (pn pc : Nat) (h1 : (o == 1) = false) (h2 : (o == 2) = false) (h3 : (o == 3) = false) (h4 : (o == 4) = false) (h5 : (o == 5) = false) (x : Int) (hx : wrap64 (wrap64 (o - 6) + 4) = x) :
    Calls Tryd.prog 46 #[.pointer (some ⟨wb, 0, none⟩), .agg #[.int .i64 o, .int .i64 n, .string s, .slice pa pn pc]] W fun e w' => e = .returned (.tuple #[]) ∧ Wk n0 wb W w' ∧ Wr n0 w' wb sc (.slice xa xn xm) (.slice xb yn ym) (.slice xc zn zm) (l ++ [⟨x, 0, 0⟩]) := by
  have HW := Lib.hid hw
  have HV := Lib.hid hv
  have HA := Lib.hid ha
  have HS := Lib.hid hs
  have hbl : Below W.heap.size W (W.alloc (.cells #[.int .i64 o, .int .i64 n, .string s, .slice pa pn pc] 51)) := (Below.refl _ _).alloc (Nat.le_refl _) _
  have HBL := Lib.hid hbl
  clear hw hv ha hs hbl
  have HX := Lib.hid hx
  clear hx
  go_enter Tryd.func46, Tryd.ntmps46
  go_wp2_with (rw [HX.out]; go_at_call 15; refine (put_r n0 wb sc (.slice xa xn xm) (.slice xb yn ym) (.slice xc zn zm) l x 0 0 _ (HW.out.stay HBL.out) hl).mono ?_; rintro e w' ⟨rfl, hk, hr⟩; have HK := Lib.hid hk; have HR := Lib.hid hr; clear hk hr)
  go_end0
  exact ⟨rfl, (Wk.of_below hn HBL.out).trans HK.out, HR.out⟩

theorem wexpr_r (n0 wb : Nat) (sc : SC) (all : List SC) (xa xb xc : Option Addr) (xn xm yn ym zn zm : Nat) (l : List VI) (W : World) (hw : Wr n0 W wb sc (.slice xa xn xm) (.slice xb yn ym) (.slice xc zn zm) l) (hn : n0 ≤ W.heap.size) (hl : l.length ≤ 4194304)
    (hv : TSl W (.slice xa xn xm) sc.vars) (ha : TSl W (.slice xb yn ym) sc.arrays) (hs : CSl W (.slice xc zn zm) all) (o n : Int) (s : ByteArray) (pa : Option Addr) (pn pc : Nat) :
    Calls Tryd.prog 46 #[.pointer (some ⟨wb, 0, none⟩), .agg #[.int .i64 o, .int .i64 n, .string s, .slice pa pn pc]] W fun e w' => e = .returned (.tuple #[]) ∧ Wk n0 wb W w' ∧ Wr n0 w' wb sc (.slice xa xn xm) (.slice xb yn ym) (.slice xc zn zm) (l ++ [insE all sc o n s]) := by
  unfold insE
  by_cases h1 : o = 1
  · subst h1; exact wexpr_1 n0 wb sc all xa xb xc xn xm yn ym zn zm l W hw hn hl hv ha hs n s pa pn pc
  rw [if_neg h1]
  by_cases h2 : o = 2
  · subst h2; exact wexpr_2 n0 wb sc all xa xb xc xn xm yn ym zn zm l W hw hn hl hv ha hs n s pa pn pc
  rw [if_neg h2]
  by_cases h3 : o = 3
  · subst h3; exact wexpr_3 n0 wb sc all xa xb xc xn xm yn ym zn zm l W hw hn hl hv ha hs n s pa pn pc
  rw [if_neg h3]
  by_cases h4 : o = 4
  · subst h4; exact wexpr_4 n0 wb sc all xa xb xc xn xm yn ym zn zm l W hw hn hl hv ha hs n s pa pn pc
  rw [if_neg h4]
  by_cases h5 : o = 5
  · subst h5; exact wexpr_5 n0 wb sc all xa xb xc xn xm yn ym zn zm l W hw hn hl hv ha hs n s pa pn pc
  rw [if_neg h5]
  exact wexpr_6 n0 wb sc all xa xb xc xn xm yn ym zn zm l W hw hn hl hv ha hs o n s pa pn pc (by simpa using h1) (by simpa using h2) (by simpa using h3) (by simpa using h4) (by simpa using h5) _ rfl
end Go.Proofs.YthjjcmmonjajhaaDoor
