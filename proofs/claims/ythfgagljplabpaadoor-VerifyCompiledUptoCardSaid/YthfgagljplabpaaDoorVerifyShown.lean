/- shown: what must be in any case. -/
import Derived.Test.YthfgagljplabpaaDoorVerifyKit
namespace Go.Proofs.YthfgagljplabpaaDoor.V
open Go.RowKit Go.Sort
set_option linter.unusedVariables false

def ex0 : List VI := [⟨1, 0, 1⟩, ⟨18, 0, 0⟩]
def ex1 : List VI := [⟨18, 0, 0⟩]
def ex2 : List VI := [⟨1, 0, 0⟩, ⟨16, 3, 0⟩, ⟨1, 0, 0⟩, ⟨1, 0, 0⟩, ⟨18, 0, 0⟩]
def ex3 : List VI := [⟨15, 2, 0⟩, ⟨99, 0, 0⟩, ⟨1, 0, 0⟩, ⟨1, 0, 0⟩, ⟨18, 0, 0⟩]
def ex4 : List VI := [⟨1, 0, 0⟩]
def ex5 : List VI := [⟨2, 2, 0⟩, ⟨18, 0, 0⟩]
def exF (l : List VI) : List VF := [⟨ByteArray.empty, 0, 2, 1, l⟩]
theorem exV0 : (if codeV (exF ex0) then (0 : Int) else 6) = 0 := by decide +kernel
theorem exV1 : (if codeV (exF ex1) then (0 : Int) else 6) = 6 := by decide +kernel
theorem exV2 : (if codeV (exF ex2) then (0 : Int) else 6) = 6 := by decide +kernel
theorem exV3 : (if codeV (exF ex3) then (0 : Int) else 6) = 0 := by decide +kernel
theorem exV4 : (if codeV (exF ex4) then (0 : Int) else 6) = 6 := by decide +kernel
theorem exV5 : (if codeV (exF ex5) then (0 : Int) else 6) = 6 := by decide +kernel
theorem exV6 : (if codeV [] then (0 : Int) else 6) = 6 := by decide +kernel

set_option maxHeartbeats 8000000 in
set_option maxRecDepth 1000000 in
theorem shown_r (w : World) (ht : Tab w) : Calls Tryd.prog 7 #[] w fun e w' => e = .returned (.bool true) ∧ Below w.heap.size w w' := by
  have HT := Lib.hid ht
  clear ht
  go_enter Tryd.func7, Tryd.ntmps7
  go_wp2_with fail
  refine (of1_r _ _ _ ex0 _ (ISl.alloc (ISl.alloc (ISl.alloc (ISl.alloc (ISl.alloc (isl_new _ ex0 25 (by decide)) _) _) _) _) _)).mono ?_
  rintro e w1 ⟨b, rfl, hb, hv⟩
  have HB : Hid (Below w.heap.size w w1) := hb_step (by repeat (first | exact hb_start _ | refine hb_drew ?_ | refine hb_alloc ?_ _)) hb
  have HI1 : Hid (ISl w1 (.slice (some ⟨w.heap.size + 1, 0, none⟩) 1 1) ex1) := by
    have := (ISl.alloc (ISl.alloc (ISl.alloc (ISl.alloc (isl_new _ ex1 25 (by decide)) _) _) _) _).stay hb
    simp only [World.size_alloc] at this
    exact this
  have HI2 : Hid (ISl w1 (.slice (some ⟨w.heap.size + 1 + 1, 0, none⟩) 5 5) ex2) := by
    have := (ISl.alloc (ISl.alloc (ISl.alloc (isl_new _ ex2 25 (by decide)) _) _) _).stay hb
    simp only [World.size_alloc] at this
    exact this
  have HI3 : Hid (ISl w1 (.slice (some ⟨w.heap.size + 1 + 1 + 1, 0, none⟩) 5 5) ex3) := by
    have := (ISl.alloc (ISl.alloc (isl_new _ ex3 25 (by decide)) _) _).stay hb
    simp only [World.size_alloc] at this
    exact this
  have HI4 : Hid (ISl w1 (.slice (some ⟨w.heap.size + 1 + 1 + 1 + 1, 0, none⟩) 1 1) ex4) := by
    have := (ISl.alloc (isl_new _ ex4 25 (by decide)) _).stay hb
    simp only [World.size_alloc] at this
    exact this
  have HI5 : Hid (ISl w1 (.slice (some ⟨w.heap.size + 1 + 1 + 1 + 1 + 1, 0, none⟩) 2 2) ex5) := by
    have := (isl_new _ ex5 25 (by decide)).stay hb
    simp only [World.size_alloc] at this
    exact this
  have HV := Lib.hid hv
  have HB1 := hb_start w1
  clear hb hv
  go_wp2_with fail
  refine (code_v (exF ex0) _ _ _ _ (HT.out.below HB.out) HV.out _ exV0).mono ?_
  rintro e w2 ⟨rfl, hb⟩
  have HBn := hb_step HB hb
  have HB1n := hb_step HB1 hb
  clear HB HB1 hb HV
  have HB := HBn
  have HB1 := HB1n
  clear HBn HB1n
  go_wp2_with fail
  refine (of1_r _ _ _ ex1 _ (HI1.out.stay HB1.out)).mono ?_
  rintro e w3 ⟨b, rfl, hb, hv⟩
  have HBn := hb_step HB hb
  have HB1n := hb_step HB1 hb
  have HV := Lib.hid hv
  clear HB HB1 hb hv HI1
  have HB := HBn
  have HB1 := HB1n
  clear HBn HB1n
  go_wp2_with fail
  refine (code_v (exF ex1) _ _ _ _ (HT.out.below HB.out) HV.out _ exV1).mono ?_
  rintro e w4 ⟨rfl, hb⟩
  have HBn := hb_step HB hb
  have HB1n := hb_step HB1 hb
  clear HB HB1 hb HV
  have HB := HBn
  have HB1 := HB1n
  clear HBn HB1n
  go_wp2_with fail
  refine (of1_r _ _ _ ex2 _ (HI2.out.stay HB1.out)).mono ?_
  rintro e w5 ⟨b, rfl, hb, hv⟩
  have HBn := hb_step HB hb
  have HB1n := hb_step HB1 hb
  have HV := Lib.hid hv
  clear HB HB1 hb hv HI2
  have HB := HBn
  have HB1 := HB1n
  clear HBn HB1n
  go_wp2_with fail
  refine (code_v (exF ex2) _ _ _ _ (HT.out.below HB.out) HV.out _ exV2).mono ?_
  rintro e w6 ⟨rfl, hb⟩
  have HBn := hb_step HB hb
  have HB1n := hb_step HB1 hb
  clear HB HB1 hb HV
  have HB := HBn
  have HB1 := HB1n
  clear HBn HB1n
  go_wp2_with fail
  refine (of1_r _ _ _ ex3 _ (HI3.out.stay HB1.out)).mono ?_
  rintro e w7 ⟨b, rfl, hb, hv⟩
  have HBn := hb_step HB hb
  have HB1n := hb_step HB1 hb
  have HV := Lib.hid hv
  clear HB HB1 hb hv HI3
  have HB := HBn
  have HB1 := HB1n
  clear HBn HB1n
  go_wp2_with fail
  refine (code_v (exF ex3) _ _ _ _ (HT.out.below HB.out) HV.out _ exV3).mono ?_
  rintro e w8 ⟨rfl, hb⟩
  have HBn := hb_step HB hb
  have HB1n := hb_step HB1 hb
  clear HB HB1 hb HV
  have HB := HBn
  have HB1 := HB1n
  clear HBn HB1n
  go_wp2_with fail
  refine (of1_r _ _ _ ex4 _ (HI4.out.stay HB1.out)).mono ?_
  rintro e w9 ⟨b, rfl, hb, hv⟩
  have HBn := hb_step HB hb
  have HB1n := hb_step HB1 hb
  have HV := Lib.hid hv
  clear HB HB1 hb hv HI4
  have HB := HBn
  have HB1 := HB1n
  clear HBn HB1n
  go_wp2_with fail
  refine (code_v (exF ex4) _ _ _ _ (HT.out.below HB.out) HV.out _ exV4).mono ?_
  rintro e w10 ⟨rfl, hb⟩
  have HBn := hb_step HB hb
  have HB1n := hb_step HB1 hb
  clear HB HB1 hb HV
  have HB := HBn
  have HB1 := HB1n
  clear HBn HB1n
  go_wp2_with fail
  refine (of1_r _ _ _ ex5 _ (HI5.out.stay HB1.out)).mono ?_
  rintro e w11 ⟨b, rfl, hb, hv⟩
  have HBn := hb_step HB hb
  have HB1n := hb_step HB1 hb
  have HV := Lib.hid hv
  clear HB HB1 hb hv HI5
  have HB := HBn
  have HB1 := HB1n
  clear HBn HB1n
  go_wp2_with fail
  refine (code_v (exF ex5) _ _ _ _ (HT.out.below HB.out) HV.out _ exV5).mono ?_
  rintro e w12 ⟨rfl, hb⟩
  have HBn := hb_step HB hb
  have HB1n := hb_step HB1 hb
  clear HB HB1 hb HV
  have HB := HBn
  have HB1 := HB1n
  clear HBn HB1n
  go_wp2_with fail
  refine (code_v [] _ _ _ _ (HT.out.below HB.out) (VSl.nil _) _ exV6).mono ?_
  rintro e w13 ⟨rfl, hb⟩
  have HBn := hb_step HB hb
  have HB1n := hb_step HB1 hb
  clear HB HB1 hb
  have HB := HBn
  have HB1 := HB1n
  clear HBn HB1n
  go_wp2_with fail
  go_ret
  exact ⟨rfl, HB.out⟩
end Go.Proofs.YthfgagljplabpaaDoor.V
