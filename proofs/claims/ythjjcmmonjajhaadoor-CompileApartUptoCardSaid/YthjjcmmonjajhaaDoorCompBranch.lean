/- branch: If and While. -/
import Derived.Test.YthjjcmmonjajhaaDoorCompExprs
namespace Go.Proofs.YthjjcmmonjajhaaDoor
open Go.RowKit Go.Sort
set_option linter.unusedVariables false

theorem land_at (c b r : List VI) (x : VI) : landV (c ++ x :: (b ++ r)) c.length = c ++ ⟨x.op, (c.length + 1 + b.length + r.length : Nat), x.n⟩ :: (b ++ r) := by
  unfold landV
  have h1 : (c ++ x :: (b ++ r)).getD c.length default = x := by
    rw [List.getD_eq_getElem?_getD, List.getElem?_append_right (Nat.le_refl _)]; simp
  rw [h1, List.set_append_right _ _ (Nat.le_refl _)]
  simp only [Nat.sub_self, List.set_cons_zero, List.length_append, List.length_cons]
  congr 4
  omega
/-- What stmts does to the writer, wherever it is called. -/
def Writes (w0 : World) (n0 wb : Nat) (sc : SC) (all : List SC) (xa xb xc : Option Addr) (xn xm yn ym zn zm : Nat) (v : Value) (l : List ST) : Prop :=
  ∀ (c : List VI) (W : World), Below w0.heap.size w0 W → Wr n0 W wb sc (.slice xa xn xm) (.slice xb yn ym) (.slice xc zn zm) c → n0 ≤ W.heap.size → c.length + (ST.codeL all sc l c.length).length ≤ 4194304 →
    Calls Tryd.prog 14 #[.pointer (some ⟨wb, 0, none⟩), v] W fun e w' => e = .returned (.tuple #[]) ∧ Wk n0 wb W w' ∧ Wr n0 w' wb sc (.slice xa xn xm) (.slice xb yn ym) (.slice xc zn zm) (c ++ ST.codeL all sc l c.length)

set_option maxHeartbeats 4000000 in
set_option maxRecDepth 1000000 in
theorem wbranch_r (w0 : World) (n0 wb : Nat) (sc : SC) (all : List SC) (xa xb xc : Option Addr) (xn xm yn ym zn zm : Nat) (o n : Int) (ho : o = 7 ∨ o = 8) (s : ByteArray) (pa ba ea : Option Addr) (pn pm bn bm en em : Nat) (bs es : List ST)
    (h1 : Writes w0 n0 wb sc all xa xb xc xn xm yn ym zn zm (.slice ba bn bm) bs) (h2 : Writes w0 n0 wb sc all xa xb xc xn xm yn ym zn zm (.slice ea en em) es) (h0 : w0.heap.size ≤ n0) (c : List VI) (at_ : Nat) (bc ec : List VI)
    (hbc : ST.codeL all sc bs (c.length + 1) = bc) (hec : ST.codeL all sc es (c.length + 1 + bc.length + 1) = ec) (hl : o = 7 → c.length + 1 + bc.length + 1 + ec.length ≤ 4194304) (hl8 : o = 8 → c.length + 1 + bc.length + 1 ≤ 4194304) (W : World) (hB : Below w0.heap.size w0 W) (hw : Wr n0 W wb sc (.slice xa xn xm) (.slice xb yn ym) (.slice xc zn zm) c) (hn : n0 ≤ W.heap.size)
    (r : List VI) (hr : (if o = 7 then [⟨16, (c.length + 1 + bc.length + 1 : Nat), 0⟩] ++ bc ++ [⟨15, (c.length + 1 + bc.length + 1 + ec.length : Nat), 0⟩] ++ ec else [⟨16, (c.length + 1 + bc.length + 1 : Nat), 0⟩] ++ bc ++ [⟨15, (at_ : Nat), 0⟩]) = r) :
    Calls Tryd.prog 31 #[.pointer (some ⟨wb, 0, none⟩), .agg #[.int .i64 o, .string s, .int .i64 n, .slice pa pn pm, .slice ba bn bm, .slice ea en em], .int .i64 at_] W fun e w' => e = .returned (.tuple #[]) ∧ Wk n0 wb W w' ∧ Wr n0 w' wb sc (.slice xa xn xm) (.slice xb yn ym) (.slice xc zn zm) (c ++ r) := by
  have HW := Lib.hid hw
  have H1 := Lib.hid h1
  have H2 := Lib.hid h2
  have HB := Lib.hid hB
  have HBC := Lib.hid hbc
  have HEC := Lib.hid hec
  have HL := Lib.hid hl
  have HR := Lib.hid hr
  have HLT := Lib.hid hw.lt
  have hbl : Below W.heap.size W (W.alloc (.cells #[.int .i64 o, .string s, .int .i64 n, .slice pa pn pm, .slice ba bn bm, .slice ea en em] 53)) := (Below.refl _ _).alloc (Nat.le_refl _) _
  have HBL := Lib.hid hbl
  have HK0 : Hid (Wk n0 wb W (W.alloc (.cells #[.int .i64 o, .string s, .int .i64 n, .slice pa pn pm, .slice ba bn bm, .slice ea en em] 53))) := .of_below hn hbl
  have hpj : c.length + 1 + bc.length + 1 ≤ 4194304 := by
    rcases ho with h | h
    · have := hl h; omega
    · exact hl8 h
  have hlc : c.length ≤ 4194304 := by omega
  have HLC := Lib.hid hlc
  clear hw h1 h2 hB hbc hec hl hl8 hr hbl hlc
  go_enter Tryd.func31, Tryd.ntmps31
  go_wp2_with fail
  refine (put_r n0 wb sc _ _ _ c 16 0 0 _ (HW.out.stay HBL.out) HLC.out).mono ?_
  rintro e w1 ⟨rfl, hk1, hr1⟩
  have HX1 := Lib.hid (hk1.box HLT.out (by decide))
  have HK1 : Hid (Wk n0 wb W w1) := HK0.out.trans hk1
  have HR1 := Lib.hid hr1
  clear hk1 hr1
  have q4 := cell_of_heap HX1.out 4
  go_wp2_with fail
  refine (H1.out _ _ (HB.out.trans (HK1.out.below.mono h0)) HR1.out (Nat.le_trans hn HK1.out.size) (by rw [show (c ++ [(⟨16, 0, 0⟩ : VI)]).length = c.length + 1 by simp, HBC.out]; omega)).mono ?_
  rintro e w2 ⟨rfl, hk2, hr2⟩
  have HX2 : Hid (w2.heap[W.heap.size]? = some _) := hk2.kept _ _ HX1.out (by have := HLT.out; omega) (fun cs fr e => by injection e with _ h _; exact absurd h (by decide))
  have HK2 : Hid (Wk n0 wb W w2) := HK1.out.trans hk2
  have HR2 : Hid (Wr n0 w2 wb sc (.slice xa xn xm) (.slice xb yn ym) (.slice xc zn zm) (c ++ ⟨16, 0, 0⟩ :: bc)) := by
    show Wr _ _ _ _ _ _ _ _
    have := hr2
    rw [List.length_append, show c.length + [(⟨16, 0, 0⟩ : VI)].length = c.length + 1 from rfl, HBC.out, List.append_assoc] at this
    exact this
  clear hk2 hr2 q4
  go_wp2_with fail
  refine (put_r n0 wb sc _ _ _ _ 15 at_ 0 _ HR2.out (by simp only [List.length_append, List.length_cons]; omega)).mono ?_
  rintro e w3 ⟨rfl, hk3, hr3⟩
  have HX3 : Hid (w3.heap[W.heap.size]? = some _) := hk3.kept _ _ HX2.out (by have := HLT.out; omega) (fun cs fr e => by injection e with _ h _; exact absurd h (by decide))
  have HK3 : Hid (Wk n0 wb W w3) := HK2.out.trans hk3
  have HR3 : Hid (Wr n0 w3 wb sc (.slice xa xn xm) (.slice xb yn ym) (.slice xc zn zm) (c ++ ⟨16, 0, 0⟩ :: (bc ++ [⟨15, at_, 0⟩]))) := by
    show Wr _ _ _ _ _ _ _ _
    have := hr3
    rw [List.append_assoc] at this
    exact this
  clear hk3 hr3
  have hjl : (c ++ ⟨16, 0, 0⟩ :: bc).length = c.length + 1 + bc.length := by simp only [List.length_append, List.length_cons]; omega
  rw [hjl]
  clear hjl
  go_wp2_with fail
  refine (lands_r n0 wb sc _ _ _ _ c.length (by simp only [List.length_append, List.length_cons]; omega) _ HR3.out (Nat.le_trans hn HK3.out.size)).mono ?_
  rintro e w4 ⟨rfl, hk4, hr4⟩
  have HX4 : Hid (w4.heap[W.heap.size]? = some _) := hk4.kept _ _ HX3.out (by have := HLT.out; omega) (fun cs fr e => by injection e with _ h _; exact absurd h (by decide))
  have HK4 : Hid (Wk n0 wb W w4) := HK3.out.trans hk4
  have HR4 : Hid (Wr n0 w4 wb sc (.slice xa xn xm) (.slice xb yn ym) (.slice xc zn zm) (c ++ ⟨16, (c.length + 1 + bc.length + 1 : Nat), 0⟩ :: (bc ++ [⟨15, at_, 0⟩]))) := by
    show Wr _ _ _ _ _ _ _ _
    have := hr4
    rw [land_at] at this
    exact this
  clear hk4 hr4
  have q0 := cell_of_heap HX4.out 0
  have q5 := cell_of_heap HX4.out 5
  rcases ho with rfl | rfl
  rotate_left
  · go_wp2
    go_end0
    refine ⟨rfl, HK4.out, ?_⟩
    have := HR4.out
    rw [← HR.out, if_neg (by decide)]
    simpa using this
  · go_wp2_with fail
    refine (H2.out _ _ (HB.out.trans (HK4.out.below.mono h0)) HR4.out (Nat.le_trans hn HK4.out.size) ?_).mono ?_
    · have hjl : (c ++ (⟨16, (c.length + 1 + bc.length + 1 : Nat), 0⟩ : VI) :: (bc ++ [⟨15, (at_ : Int), 0⟩])).length = c.length + 1 + bc.length + 1 := by simp only [List.length_append, List.length_cons, List.length_nil]; omega
      have hl7 := HL.out (by first | rfl | trivial)
      rw [hjl, HEC.out]; omega
    rintro e w5 ⟨rfl, hk5, hr5⟩
    have HK5 : Hid (Wk n0 wb W w5) := HK4.out.trans hk5
    have HR5 : Hid (Wr n0 w5 wb sc (.slice xa xn xm) (.slice xb yn ym) (.slice xc zn zm) ((c ++ ⟨16, (c.length + 1 + bc.length + 1 : Nat), 0⟩ :: bc) ++ ⟨15, at_, 0⟩ :: ([] ++ ec))) := by
      show Wr _ _ _ _ _ _ _ _
      have hjl : (c ++ (⟨16, (c.length + 1 + bc.length + 1 : Nat), 0⟩ : VI) :: (bc ++ [⟨15, (at_ : Int), 0⟩])).length = c.length + 1 + bc.length + 1 := by simp only [List.length_append, List.length_cons, List.length_nil]; omega
      have := hr5
      rw [hjl, HEC.out] at this
      simpa using this
    clear hk5 hr5
    have hjl : (c ++ (⟨16, (c.length + 1 + bc.length + 1 : Nat), 0⟩ : VI) :: bc).length = c.length + 1 + bc.length := by simp only [List.length_append, List.length_cons]; omega
    have hcast : (c.length : Int) + 1 + bc.length = (((c ++ (⟨16, (c.length + 1 + bc.length + 1 : Nat), 0⟩ : VI) :: bc).length : Nat) : Int) := by rw [hjl]; simp
    have HJ := Lib.hid hjl
    have HCT := Lib.hid hcast
    clear hjl hcast
    go_wp2_with fail
    rw [HCT.out]
    refine (lands_r n0 wb sc _ _ _ _ _ (by simp only [List.length_append, List.length_cons]; omega) _ HR5.out (Nat.le_trans hn HK5.out.size)).mono ?_
    rintro e w6 ⟨rfl, hk6, hr6⟩
    have HK6 : Hid (Wk n0 wb W w6) := HK5.out.trans hk6
    have HR6 : Hid (Wr n0 w6 wb sc (.slice xa xn xm) (.slice xb yn ym) (.slice xc zn zm) (c ++ r)) := by
      show Wr _ _ _ _ _ _ _ _
      have := hr6
      rw [land_at, HJ.out] at this
      rw [← HR.out, if_pos trivial]
      simpa using this
    clear hk6 hr6
    go_wp2
    go_end0
    exact ⟨rfl, HK6.out, HR6.out⟩
end Go.Proofs.YthjjcmmonjajhaaDoor
