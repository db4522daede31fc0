/- (shape).fits computes fitsB. -/
import Derived.Test.YthjjcmmonjajhaaDoorTreeRep
namespace Go.Proofs.YthjjcmmonjajhaaDoor
open Go.RowKit Go.Sort
set_option linter.unusedVariables false

def manyB (parts k : Int) : Bool := (k == parts) || (decide (parts < 0) && decide (k ≤ -parts))
def fitsB (nm : Bool) (least most parts : Int) (s : ByteArray) (n k : Int) : Bool :=
  manyB parts k && (decide (least ≤ n) && (decide (n ≤ most) && (if nm then nameB s else s.toList.isEmpty)))
theorem many_cases (parts k : Int) : ((k == parts) = true ∧ manyB parts k = true) ∨ ((k == parts) = false ∧ decide (parts < 0) = false ∧ manyB parts k = false) ∨ ((k == parts) = false ∧ decide (parts < 0) = true ∧ decide (k ≤ -parts) = true ∧ manyB parts k = true) ∨ ((k == parts) = false ∧ decide (parts < 0) = true ∧ decide (k ≤ -parts) = false ∧ manyB parts k = false) := by
  unfold manyB
  cases (k == parts) <;> cases decide (parts < 0) <;> cases decide (k ≤ -parts) <;> simp
theorem fits_cases (nm : Bool) (least most parts : Int) (s : ByteArray) (n k : Int) (m : Bool) (hm : manyB parts k = m) :
    (m = false ∧ fitsB nm least most parts s n k = false) ∨ (m = true ∧ ((decide (least ≤ n) = false ∧ fitsB nm least most parts s n k = false) ∨ (decide (least ≤ n) = true ∧ decide (n ≤ most) = false ∧ fitsB nm least most parts s n k = false) ∨
      (decide (least ≤ n) = true ∧ decide (n ≤ most) = true ∧ ((nm = true ∧ fitsB nm least most parts s n k = nameB s) ∨ (nm = false ∧ fitsB nm least most parts s n k = s.toList.isEmpty))))) := by
  unfold fitsB
  rw [hm]
  cases m <;> cases decide (least ≤ n) <;> cases decide (n ≤ most) <;> cases nm <;> simp

set_option maxHeartbeats 4000000 in
set_option maxRecDepth 1000000 in
theorem fits_r (nm bd ot : Bool) (least most parts : Int) (s : ByteArray) (n k : Int) (hp0 : -100 ≤ parts) (hp1 : parts ≤ 100) (b : Bool) (hb : fitsB nm least most parts s n k = b) (w : World) :
    Calls Tryd.prog 69 #[.agg #[.bool nm, .int .i64 least, .int .i64 most, .int .i64 parts, .bool bd, .bool ot], .string s, .int .i64 n, .int .i64 k] w fun e w' => e = .returned (.bool b) ∧ Below w.heap.size w w' := by
  have HB := hb_start w
  obtain ⟨m, hm⟩ : ∃ m, manyB parts k = m := ⟨_, rfl⟩
  obtain ⟨q, hq⟩ : ∃ q, nameB s = q := ⟨_, rfl⟩
  obtain ⟨r, hr⟩ : ∃ r, s.toList.isEmpty = r := ⟨_, rfl⟩
  have hf := fits_cases nm least most parts s n k m hm
  rw [hb, hq, hr] at hf
  have HQ := Lib.hid hq
  clear hb hq
  have hc := many_cases parts k
  rw [hm] at hc
  clear hm
  rcases hc with ⟨e1, rfl⟩ | ⟨e1, e2, rfl⟩ | ⟨e1, e2, e3, rfl⟩ | ⟨e1, e2, e3, rfl⟩
  all_goals
    rcases hf with ⟨hmf, rfl⟩ | ⟨hmf, ⟨d1, rfl⟩ | ⟨d1, d2, rfl⟩ | ⟨d1, d2, ⟨rfl, rfl⟩ | ⟨rfl, rfl⟩⟩⟩
    all_goals try cases b
    all_goals first
      | (exfalso; cases hmf; done)
      | (clear hmf
         go_enter Tryd.func69, Tryd.ntmps69
         go_wp2_with (go_at_call 42; refine (name_r s _ HQ.out _).mono ?_; rintro e w' ⟨rfl, hb⟩; have c0 := (hb.cell (p := ⟨w.heap.size, 0, none⟩) (lt_of_cell (o := 0) (v := .bool true) (by simp))).trans (show _ = some (Value.bool true) by simp); have HB2 : Hid (Below w.heap.size w w') := hb_step (by repeat (first | exact HB | refine hb_drew ?_ | refine hb_alloc ?_ _)) hb; clear HB; have HB := HB2; clear HB2; clear hb)
         go_ret
         first | exact ⟨rfl, HB.out⟩ | exact ⟨rfl, (hb_alloc HB _).out⟩)
end Go.Proofs.YthjjcmmonjajhaaDoor
