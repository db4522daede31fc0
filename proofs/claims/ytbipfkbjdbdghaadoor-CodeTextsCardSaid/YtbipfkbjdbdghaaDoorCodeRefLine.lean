/- The document's line. -/
import Derived.Test.YtbipfkbjdbdghaaDoorCodeOf
import Derived.Test.YtbipfkbjdbdghaaDoorCodeLine2
namespace Go.Proofs.YtbipfkbjdbdghaaDoor
open Go.RowKit Go.Sort
set_option linter.unusedVariables false

theorem refof_r (op : Int) (n : Nat) (hn : ix op = n) (s : ByteArray) (hs0 : nm n = s) (t1 t2 : Bool) (h1 : decide (hs n % 2 = 1) = t1) (h2 : decide (hs n / 2 = 1) = t2) (w : World) :
    Calls Tryd.prog 8 #[.int .i64 op] w fun e w' => e = .returned (.agg #[.string s, .int .i64 (tk n), .int .i64 (lv n), .int .i64 (1 + mo n), .bool t1, .bool t2]) ∧ Below w.heap.size w w' := by
  subst hs0 h1 h2
  exact refof_core op n hn w

set_option maxHeartbeats 4000000 in
set_option maxRecDepth 1000000 in
theorem refline_core (place op a n : Int) (hp : R place) (ha : R a) (hn : R n) (k : Nat) (hk : ix op = k) (s1 s2 sa sn s : ByteArray) (h1 : txt place = s1) (h2 : nm k = s2) (h3 : txt a = sa) (h4 : txt n = sn)
    (z1 : s1.size ≤ 30) (z2 : s2.size ≤ 30) (z3 : sa.size ≤ 30) (z4 : sn.size ≤ 30) (t1 t2 : Bool) (g1 : decide (hs k % 2 = 1) = t1) (g2 : decide (hs k / 2 = 1) = t2)
    (hS : (let s := s1 ++ ⟨#[32]⟩ ++ s2; let s := if t1 then s ++ ⟨#[32]⟩ ++ sa else s; let s := if t2 then s ++ ⟨#[32]⟩ ++ sn else s; s ++ ⟨#[10]⟩) = s) (w : World) :
    Calls Tryd.prog 15 #[.int .i64 place, .int .i64 op, .int .i64 a, .int .i64 n] w fun e w' => e = .returned (.string s) ∧ Below w.heap.size w w' := by
  have HK := Lib.hid hk
  have HP := Lib.hid hp
  have HA := Lib.hid ha
  have HN := Lib.hid hn
  have H1 := Lib.hid h1
  have H2 := Lib.hid h2
  have H3 := Lib.hid h3
  have H4 := Lib.hid h4
  have HS := Lib.hid hS
  have HG1 := Lib.hid g1
  have HG2 := Lib.hid g2
  clear hk hp h1 h2 h3 h4 ha hn hS g1 g2
  go_enter Tryd.func15, Tryd.ntmps15
  go_upto_region 2 with (go_at_call 8; refine (refof_r _ _ HK.out _ H2.out _ _ HG1.out HG2.out _).mono ?_; rintro e w' ⟨rfl, hb⟩; have HB0 := Lib.hid hb; clear hb)
  obtain ⟨W1, hW1⟩ : ∃ W1, W1 = w'.alloc (Obj.cells #[.string s2, .int .i64 (tk k), .int .i64 (lv k), .int .i64 (1 + mo k), .bool t1, .bool t2] 24) := ⟨_, rfl⟩
  obtain ⟨b, hb⟩ : ∃ b, b = w'.heap.size := ⟨_, rfl⟩
  rw [← hW1, ← hb]
  have hbl : b < W1.heap.size := by rw [hW1, hb]; show _ < (w'.heap.push _).size; rw [Array.size_push]; omega
  have c0 : W1.cell? ⟨b, 0, none⟩ = some (.string s2) := by rw [hW1, hb]; simp
  have c4 : W1.cell? ⟨b, 4, none⟩ = some (.bool t1) := by rw [hW1, hb]; simp
  have c5 : W1.cell? ⟨b, 5, none⟩ = some (.bool t2) := by rw [hW1, hb]; simp
  have HW : Hid (Below w.heap.size w W1) := by rw [hW1]; exact hb_alloc HB0 _
  have HC := Lib.hid (And.intro c0 (And.intro c4 (And.intro c5 hbl)))
  have HB := hb_start W1
  clear hW1 hb HB0
  go_cut [10] from 10 to 19 (fun v wx => v = .string (s1 ++ ⟨#[32]⟩ ++ s2) ∧ Hid (Below W1.heap.size W1 wx))
  case first =>
    go_region_with (go_at_call 18; refine (digits_r _ HP.out _ H1.out _).mono ?_; rintro e w' ⟨rfl, hb⟩; have HB2 : Hid (Below W1.heap.size W1 w') := hb_step (by repeat (first | exact HB | refine hb_drew ?_ | refine hb_alloc ?_ _)) hb; clear HB; have HB := HB2; clear HB2; clear hb; have c0' := (HB.out.cell (p := ⟨b, 0, none⟩) HC.out.2.2.2).trans HC.out.1)
    all_goals (go_wp2_with fail; go_meet; exact ⟨rfl, (by repeat (first | exact HB | refine hb_drew ?_ | refine hb_alloc ?_ _))⟩)
  case rest =>
    clear HB
    obtain ⟨rfl, HB⟩ := hcut
    have c4' := (HB.out.cell (p := ⟨b, 4, none⟩) HC.out.2.2.2).trans HC.out.2.1
    clear c0 c4 c5
    cases t1 <;> cases t2
    all_goals
      have hfin := HS.out
      simp only [if_true, if_false, Bool.false_eq_true] at hfin
      have HF := Lib.hid hfin
      clear hfin
      have c5' := (HB.out.cell (p := ⟨b, 5, none⟩) HC.out.2.2.2).trans HC.out.2.2.1
      go_wp2_with (first | (go_at_call_of 18 a; refine (digits_r _ HA.out _ H3.out _).mono ?_; rintro e w' ⟨rfl, hb⟩; have HB2 : Hid (Below W1.heap.size W1 w') := hb_step (by repeat (first | exact HB | refine hb_drew ?_ | refine hb_alloc ?_ _)) hb; clear HB; have HB := HB2; clear HB2; clear hb; have c5' := (HB.out.cell (p := ⟨b, 5, none⟩) HC.out.2.2.2).trans HC.out.2.2.1) | (go_at_call_of 18 n; refine (digits_r _ HN.out _ H4.out _).mono ?_; rintro e w' ⟨rfl, hb⟩; have HB2 : Hid (Below W1.heap.size W1 w') := hb_step (by repeat (first | exact HB | refine hb_drew ?_ | refine hb_alloc ?_ _)) hb; clear HB; have HB := HB2; clear HB2; clear hb))
      go_ret
      exact ⟨congrArg (fun x => Ending.returned (Value.string x)) HF.out, Below.trans HW.out (HB.out.mono HW.out.size)⟩

theorem refline_r (place op a n : Int) (hp : R place) (ha : R a) (hn : R n) (s : ByteArray) (hS : codeLine place op a n = s) (w : World) :
    Calls Tryd.prog 15 #[.int .i64 place, .int .i64 op, .int .i64 a, .int .i64 n] w fun e w' => e = .returned (.string s) ∧ Below w.heap.size w w' := by
  have hx := ix_lt op
  have z2 := nm_size (ix op) hx
  refine refline_core place op a n hp ha hn _ rfl _ _ _ _ s rfl rfl rfl rfl (txt_size _ hp) (by omega) (txt_size _ ha) (txt_size _ hn) _ _ rfl rfl ?_ w
  rw [← hS]
  unfold codeLine
  rw [← refLine_eq]
  unfold refLine
  simp only [decide_eq_true_eq]
end Go.Proofs.YtbipfkbjdbdghaaDoor
