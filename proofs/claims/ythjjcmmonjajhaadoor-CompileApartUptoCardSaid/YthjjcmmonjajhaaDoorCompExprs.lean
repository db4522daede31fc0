/- Expressions are written. -/
import Derived.Test.YthjjcmmonjajhaaDoorCompExpr
namespace Go.Proofs.YthjjcmmonjajhaaDoor
open Go.RowKit Go.Sort
set_option linter.unusedVariables false

theorem ESl.shape0 {w : World} {v : Value} {l : List ET} (h : ESl w v l) : ∃ a cap, v = .slice a l.length cap := by cases h; exact ⟨_, _, rfl⟩
theorem ET.codeL_le (all : List SC) (sc : SC) (l : List ET) (k : Nat) : (ET.codeL all sc (l.take k)).length ≤ (ET.codeL all sc l).length := by
  have := ET.codeL_append all sc (l.take k) (l.drop k)
  rw [List.take_append_drop] at this
  rw [this, List.length_append]; omega
theorem ST.codeL_le (all : List SC) (sc : SC) (l : List ST) (at_ k : Nat) : (ST.codeL all sc (l.take k) at_).length ≤ (ST.codeL all sc l at_).length := by
  have := ST.codeL_append all sc (l.take k) (l.drop k) at_
  rw [List.take_append_drop] at this
  rw [this, List.length_append]; omega
theorem Wk.alloc {n0 wb : Nat} {a b : World} (h : Wk n0 wb a b) (hn : n0 ≤ b.heap.size) (o : Obj) : Wk n0 wb a (b.alloc o) :=
  h.trans (.of_below hn ((Below.refl _ _).alloc (Nat.le_refl _) o))
/-- A new box is kept. -/
theorem Wk.box {n0 wb : Nat} {a b : World} {cs : Array Value} {t : TypeId} (h : Wk n0 wb (a.alloc (.cells cs t)) b) (hlt : wb < a.heap.size) (ht : t ≠ 45) : b.heap[a.heap.size]? = some (.cells cs t (0, 0)) :=
  h.kept _ _ (heap_alloc_new a _) (by omega) (fun cs' fr e => by injection e with _ h2 _; exact ht h2)

set_option maxHeartbeats 4000000 in
set_option maxRecDepth 1000000 in
theorem wexprs_in (w0 : World) {v : Value} {l : List ET} (h : ESl w0 v l) : ∀ (n0 wb : Nat) (sc : SC) (all : List SC) (xa xb xc : Option Addr) (xn xm yn ym zn zm : Nat) (c0 : List VI) (W : World) (hB : Below w0.heap.size w0 W) (h0 : w0.heap.size ≤ n0)
    (hw : Wr n0 W wb sc (.slice xa xn xm) (.slice xb yn ym) (.slice xc zn zm) c0) (hn : n0 ≤ W.heap.size) (hl : c0.length + (ET.codeL all sc l).length ≤ 4194304)
    (hv : TSl w0 (.slice xa xn xm) sc.vars) (ha : TSl w0 (.slice xb yn ym) sc.arrays) (hs : CSl w0 (.slice xc zn zm) all),
    Calls Tryd.prog 28 #[.pointer (some ⟨wb, 0, none⟩), v] W fun e w' => e = .returned (.tuple #[]) ∧ Wk n0 wb W w' ∧ Wr n0 w' wb sc (.slice xa xn xm) (.slice xb yn ym) (.slice xc zn zm) (c0 ++ ET.codeL all sc l) := by
  induction h with
  | mk a b off cap l f ha hc hm hcell hsub ih =>
    intro n0 wb sc all xa xb xc xn xm yn ym zn zm c0 W hB h0 hw hn hl hv hva hs
    have HA := Lib.hid ha
    have HC := Lib.hid hcell
    have HIH := Lib.hid ih
    have HSub := Lib.hid hsub
    have HB0 := Lib.hid hB
    have HW := Lib.hid hw
    have HL := Lib.hid hl
    have HV := Lib.hid hv
    have HVA := Lib.hid hva
    have HS := Lib.hid hs
    have hm1 : cap ≤ 9223372036854775807 := hm
    clear ha hcell ih hsub hB hw hm hl hv hva hs
    go_enter Tryd.func28, Tryd.ntmps28
    go_wp2
    go_loopw [8] (fun i wr => ∃ k : Nat, i = .int .i64 k ∧ k ≤ l.length ∧ Hid (Wk n0 wb W wr) ∧ Hid (Wr n0 wr wb sc (.slice xa xn xm) (.slice xb yn ym) (.slice xc zn zm) (c0 ++ ET.codeL all sc (l.take k)))) (fun i _ => l.length - (intOf i).toNat)
    case atStart => exact ⟨0, rfl, by omega, Wk.refl _ _ _, by show Wr _ _ _ _ _ _ _ _; rw [List.take_zero]; simp only [ET.codeL, List.append_nil]; exact HW.out⟩
    case round =>
      obtain ⟨k, rfl, hk, HK, HR⟩ := hrel
      by_cases hlt : k < l.length
      · obtain rfl := HA.out (by omega)
        obtain ⟨e0, e1, e2, e3⟩ := HC.out k hlt
        have WB : Below w0.heap.size w0 wr := HB0.out.trans (HK.out.below.mono h0)
        have hz : b < w0.heap.size := lt_of_cell e0
        replace e0 := (WB.cell (p := ⟨b, off + k * 4, none⟩) hz).trans e0
        replace e1 := (WB.cell (p := ⟨b, off + k * 4 + 1, none⟩) hz).trans e1
        replace e2 := (WB.cell (p := ⟨b, off + k * 4 + 2, none⟩) hz).trans e2
        replace e3 := (WB.cell (p := ⟨b, off + k * 4 + 3, none⟩) hz).trans e3
        have HI := Lib.hid (HIH.out k hlt)
        have hT := ET.codeL_take all sc l k hlt
        have hle := ET.codeL_le all sc l (k + 1)
        have hX := ET.code_parts all sc (l.getD k default)
        have hsh := (HSub.out k hlt).shape0
        generalize l.getD k default = x at e0 e1 e2 hT hX HI hsh
        generalize f k = pv at e3 HI hsh
        obtain ⟨o, n, s, ps⟩ := x
        simp only [ET.op, ET.num, ET.name, ET.parts] at e0 e1 e2 hX HI hsh
        obtain ⟨pa, pc, rfl⟩ := hsh
        rw [hX] at hT
        have hlen : (ET.codeL all sc (l.take (k + 1))).length = (ET.codeL all sc (l.take k)).length + ((ET.codeL all sc ps).length + 1) := by rw [hT]; simp
        have hnr : n0 ≤ wr.heap.size := Nat.le_trans hn HK.out.size
        have hwl : wb < wr.heap.size := HR.out.lt
        have HT := Lib.hid hT
        have HL1 : Hid ((c0 ++ ET.codeL all sc (l.take k)).length + (ET.codeL all sc ps).length ≤ 4194304) := by
          show _ ≤ _
          have := HL.out
          simp only [List.length_append]; omega
        have HL2 : Hid ((c0 ++ ET.codeL all sc (l.take k) ++ ET.codeL all sc ps).length ≤ 4194304) := by
          show _ ≤ _
          have := HL1.out
          simp only [List.length_append] at this ⊢; omega
        have HTT : Hid (c0 ++ ET.codeL all sc (l.take (k + 1)) = (c0 ++ ET.codeL all sc (l.take k)) ++ (ET.codeL all sc ps ++ [insE all sc o n s])) := by show _ = _; rw [hT]; simp
        have HWB := Lib.hid WB
        have HNR := Lib.hid hnr
        have HWL := Lib.hid hwl
        generalize c0 ++ ET.codeL all sc (l.take k) = cs at HR HL1 HL2 HTT
        clear hT hX hle hlen HT WB hz hnr hwl
        have hbl : Below wr.heap.size wr (wr.alloc (.cells #[.int .i64 o, .int .i64 n, .string s, .slice pa ps.length pc] 51)) := (Below.refl _ _).alloc (Nat.le_refl _) _
        have HBL := Lib.hid hbl
        clear hbl
        go_wp2_with (first
          | (go_at_call 28; refine (HI.out n0 wb sc all xa xb xc xn xm yn ym zn zm cs _ (HWB.out.trans (HBL.out.mono HWB.out.size)) h0 (HR.out.stay HBL.out) (Nat.le_trans HNR.out HBL.out.size) HL1.out HV.out HVA.out HS.out).mono ?_; rintro e w2 ⟨rfl, hk2, hr2⟩; have HBX := Lib.hid (hk2.box HWL.out (by decide)); have HK2 : Hid (Wk n0 wb wr w2) := (Wk.of_below HNR.out HBL.out).trans hk2; have HR2 := Lib.hid hr2; have q0 := cell_of_heap HBX.out 0; have q1 := cell_of_heap HBX.out 1; have q2 := cell_of_heap HBX.out 2; have q3 := cell_of_heap HBX.out 3; clear hk2 hr2)
          | (go_at_call 46; refine (wexpr_r n0 wb sc all xa xb xc xn xm yn ym zn zm _ _ HR2.out (Nat.le_trans HNR.out HK2.out.size) HL2.out (HV.out.stay (HWB.out.trans (HK2.out.below.mono h0))) (HVA.out.stay (HWB.out.trans (HK2.out.below.mono h0))) (HS.out.stay (HWB.out.trans (HK2.out.below.mono h0))) o n s pa _ pc).mono ?_; rintro e w3 ⟨rfl, hk3, hr3⟩; have HK3 := Lib.hid hk3; have HR3 := Lib.hid hr3; clear hk3 hr3))
        go_roundw
        case rel => exact ⟨k + 1, by go_num, by omega, (HK.out.trans HK2.out).trans HK3.out, by show Wr _ _ _ _ _ _ _ _; rw [HTT.out, ← List.append_assoc]; exact HR3.out⟩
        case measure => simp [intOf]; omega
      · obtain rfl : k = l.length := by omega
        have hr := HR.out
        rw [List.take_length] at hr
        have HR2 := Lib.hid hr
        clear hr
        go_wp2
        go_end0
        exact ⟨rfl, HK.out, HR2.out⟩
end Go.Proofs.YthjjcmmonjajhaaDoor
