/- The document's expr, op by op (printed by gen_ex.py). -/
import Derived.Test.YthjjcmmonjajhaaGreatDoorLexes
import Derived.Test.YthjjcmmonjajhaaGreatDoorTellsAll
import Derived.Deep.Light
namespace Go.Proofs.YthjjcmmonjajhaaGreatDoor
open Go.RowKit Go.Sort
set_option linter.unusedVariables false

theorem exprB_1 (n : Int) (hn : n ≤ 9223372036854775807) (s : ByteArray) (k : Nat) (z : Bool) (nm : Bool) (hnm : nameB s = nm) (r : Bool) (hr : (exprB 1 n s k && z) = r) : r = true ↔ (k = 0 ∧ 0 ≤ n ∧ s.toList = [] ∧ z = true) := by
  have e : exprB 1 n s k = (manyB (exprRow 1).2.2.2.1 k && (decide ((exprRow 1).2.1 ≤ n) && (decide (n ≤ (exprRow 1).2.2.1) && (if (exprRow 1).1 then nameB s else s.toList.isEmpty)))) := rfl
  rw [← hr, e, hnm]
  by_cases hs : s.toList = [] <;> cases z <;> simp [manyB, exprRow, exprRows, hs] <;> omega
set_option maxHeartbeats 8000000 in
set_option maxRecDepth 1000000 in
theorem rexpr_1 (n : Int) (hn : n ≤ 9223372036854775807) (s : ByteArray) (pa : Option Addr) (k pc : Nat) (hk : k ≤ pc) (hpc : pc ≤ 9223372036854775807) (w : World) (z : Bool)
    (hE : ∀ W, Below w.heap.size w W → Calls Tryz.prog 69 #[.slice pa k pc] W fun e W' => e = .returned (.bool z) ∧ Below W.heap.size W W') (r : Bool) (hr : (exprB 1 n s k && z) = r) :
    Calls Tryz.prog 86 #[.agg #[.int .i64 1, .int .i64 n, .string s, .slice pa k pc]] w fun e w' => e = .returned (.bool r) ∧ Below w.heap.size w w' := by
  obtain ⟨nm, hnm⟩ : ∃ b, nameB s = b := ⟨_, rfl⟩
  have HE := Lib.hid hE
  have HR := Lib.hid (exprB_1 n hn s k z nm hnm r hr)
  have HN := Lib.hid hnm
  have HS : Hid (nm = true → ¬ s.toList = []) := fun h => toList_ne (by have h' := hnm.trans h; unfold nameB at h'; simp at h'; omega)
  clear hnm hE hr
  cases nm
  all_goals
    go_enter Tryz.func86, Tryz.ntmps86
    go_wp2_with (first
      | (go_at_call 39; refine (rname_r s _ HN.out _).mono ?_; rintro e w' ⟨rfl, hb⟩; have HB2 : Hid (Below w.heap.size w w') := ((Below.refl _ _).alloc (Nat.le_refl _) _).trans (hb.mono (by simp)); have q0 := (hb.cell (p := ⟨w.heap.size, 0, none⟩) (by simp)).trans (show _ = some (Value.int .i64 1) by simp); have q1 := (hb.cell (p := ⟨w.heap.size, 1, none⟩) (by simp)).trans (show _ = some (Value.int .i64 n) by simp); have q2 := (hb.cell (p := ⟨w.heap.size, 2, none⟩) (by simp)).trans (show _ = some (Value.string s) by simp); have q3 := (hb.cell (p := ⟨w.heap.size, 3, none⟩) (by simp)).trans (show _ = some (Value.slice pa k pc) by simp); clear hb)
      | (go_at_call 69; refine (HE.out _ HB2.out).mono ?_; rintro e w3 ⟨rfl, hb⟩; have HB3 := hb_step HB2 hb; clear hb))
    all_goals
      go_ret
      first
        | (refine ⟨congrArg (fun b => Ending.returned (Value.bool b)) ?_, HB3.out⟩
           have hq := HR.out
           have hs := HS.out
           go_light
           clear HR HS HE HN
           show z = r
           rw [Bool.eq_iff_iff]
           simp_all
           try omega)
        | (have hf : r = false := by
             have hq := HR.out
             have hs := HS.out
             go_light
             clear HR HS HE HN
             cases r with
             | false => rfl
             | true =>
               exfalso
               obtain ⟨h1, h2, h3, h4⟩ := hq.1 rfl
               simp_all
               try omega
           rw [hf]
           exact ⟨rfl, HB2.out⟩)

theorem exprB_2 (n : Int) (hn : n ≤ 9223372036854775807) (s : ByteArray) (k : Nat) (z : Bool) (nm : Bool) (hnm : nameB s = nm) (r : Bool) (hr : (exprB 2 n s k && z) = r) : r = true ↔ (k = 0 ∧ n = 0 ∧ nm = true ∧ z = true) := by
  have e : exprB 2 n s k = (manyB (exprRow 2).2.2.2.1 k && (decide ((exprRow 2).2.1 ≤ n) && (decide (n ≤ (exprRow 2).2.2.1) && (if (exprRow 2).1 then nameB s else s.toList.isEmpty)))) := rfl
  rw [← hr, e, hnm]
  cases nm <;> cases z <;> simp [manyB, exprRow, exprRows] <;> omega
set_option maxHeartbeats 8000000 in
set_option maxRecDepth 1000000 in
theorem rexpr_2 (n : Int) (hn : n ≤ 9223372036854775807) (s : ByteArray) (pa : Option Addr) (k pc : Nat) (hk : k ≤ pc) (hpc : pc ≤ 9223372036854775807) (w : World) (z : Bool)
    (hE : ∀ W, Below w.heap.size w W → Calls Tryz.prog 69 #[.slice pa k pc] W fun e W' => e = .returned (.bool z) ∧ Below W.heap.size W W') (r : Bool) (hr : (exprB 2 n s k && z) = r) :
    Calls Tryz.prog 86 #[.agg #[.int .i64 2, .int .i64 n, .string s, .slice pa k pc]] w fun e w' => e = .returned (.bool r) ∧ Below w.heap.size w w' := by
  obtain ⟨nm, hnm⟩ : ∃ b, nameB s = b := ⟨_, rfl⟩
  have HE := Lib.hid hE
  have HR := Lib.hid (exprB_2 n hn s k z nm hnm r hr)
  have HN := Lib.hid hnm
  have HS : Hid (nm = true → ¬ s.toList = []) := fun h => toList_ne (by have h' := hnm.trans h; unfold nameB at h'; simp at h'; omega)
  clear hnm hE hr
  cases nm
  all_goals
    go_enter Tryz.func86, Tryz.ntmps86
    go_wp2_with (first
      | (go_at_call 39; refine (rname_r s _ HN.out _).mono ?_; rintro e w' ⟨rfl, hb⟩; have HB2 : Hid (Below w.heap.size w w') := ((Below.refl _ _).alloc (Nat.le_refl _) _).trans (hb.mono (by simp)); have q0 := (hb.cell (p := ⟨w.heap.size, 0, none⟩) (by simp)).trans (show _ = some (Value.int .i64 2) by simp); have q1 := (hb.cell (p := ⟨w.heap.size, 1, none⟩) (by simp)).trans (show _ = some (Value.int .i64 n) by simp); have q2 := (hb.cell (p := ⟨w.heap.size, 2, none⟩) (by simp)).trans (show _ = some (Value.string s) by simp); have q3 := (hb.cell (p := ⟨w.heap.size, 3, none⟩) (by simp)).trans (show _ = some (Value.slice pa k pc) by simp); clear hb)
      | (go_at_call 69; refine (HE.out _ HB2.out).mono ?_; rintro e w3 ⟨rfl, hb⟩; have HB3 := hb_step HB2 hb; clear hb))
    all_goals
      go_ret
      first
        | (refine ⟨congrArg (fun b => Ending.returned (Value.bool b)) ?_, HB3.out⟩
           have hq := HR.out
           have hs := HS.out
           go_light
           clear HR HS HE HN
           show z = r
           rw [Bool.eq_iff_iff]
           simp_all
           try omega)
        | (have hf : r = false := by
             have hq := HR.out
             have hs := HS.out
             go_light
             clear HR HS HE HN
             cases r with
             | false => rfl
             | true =>
               exfalso
               obtain ⟨h1, h2, h3, h4⟩ := hq.1 rfl
               simp_all
               try omega
           rw [hf]
           exact ⟨rfl, HB2.out⟩)

theorem exprB_3 (n : Int) (hn : n ≤ 9223372036854775807) (s : ByteArray) (k : Nat) (z : Bool) (nm : Bool) (hnm : nameB s = nm) (r : Bool) (hr : (exprB 3 n s k && z) = r) : r = true ↔ (k = 0 ∧ n = 0 ∧ s.toList = [] ∧ z = true) := by
  have e : exprB 3 n s k = (manyB (exprRow 3).2.2.2.1 k && (decide ((exprRow 3).2.1 ≤ n) && (decide (n ≤ (exprRow 3).2.2.1) && (if (exprRow 3).1 then nameB s else s.toList.isEmpty)))) := rfl
  rw [← hr, e, hnm]
  by_cases hs : s.toList = [] <;> cases z <;> simp [manyB, exprRow, exprRows, hs] <;> omega
set_option maxHeartbeats 8000000 in
set_option maxRecDepth 1000000 in
theorem rexpr_3 (n : Int) (hn : n ≤ 9223372036854775807) (s : ByteArray) (pa : Option Addr) (k pc : Nat) (hk : k ≤ pc) (hpc : pc ≤ 9223372036854775807) (w : World) (z : Bool)
    (hE : ∀ W, Below w.heap.size w W → Calls Tryz.prog 69 #[.slice pa k pc] W fun e W' => e = .returned (.bool z) ∧ Below W.heap.size W W') (r : Bool) (hr : (exprB 3 n s k && z) = r) :
    Calls Tryz.prog 86 #[.agg #[.int .i64 3, .int .i64 n, .string s, .slice pa k pc]] w fun e w' => e = .returned (.bool r) ∧ Below w.heap.size w w' := by
  obtain ⟨nm, hnm⟩ : ∃ b, nameB s = b := ⟨_, rfl⟩
  have HE := Lib.hid hE
  have HR := Lib.hid (exprB_3 n hn s k z nm hnm r hr)
  have HN := Lib.hid hnm
  have HS : Hid (nm = true → ¬ s.toList = []) := fun h => toList_ne (by have h' := hnm.trans h; unfold nameB at h'; simp at h'; omega)
  clear hnm hE hr
  cases nm
  all_goals
    go_enter Tryz.func86, Tryz.ntmps86
    go_wp2_with (first
      | (go_at_call 39; refine (rname_r s _ HN.out _).mono ?_; rintro e w' ⟨rfl, hb⟩; have HB2 : Hid (Below w.heap.size w w') := ((Below.refl _ _).alloc (Nat.le_refl _) _).trans (hb.mono (by simp)); have q0 := (hb.cell (p := ⟨w.heap.size, 0, none⟩) (by simp)).trans (show _ = some (Value.int .i64 3) by simp); have q1 := (hb.cell (p := ⟨w.heap.size, 1, none⟩) (by simp)).trans (show _ = some (Value.int .i64 n) by simp); have q2 := (hb.cell (p := ⟨w.heap.size, 2, none⟩) (by simp)).trans (show _ = some (Value.string s) by simp); have q3 := (hb.cell (p := ⟨w.heap.size, 3, none⟩) (by simp)).trans (show _ = some (Value.slice pa k pc) by simp); clear hb)
      | (go_at_call 69; refine (HE.out _ HB2.out).mono ?_; rintro e w3 ⟨rfl, hb⟩; have HB3 := hb_step HB2 hb; clear hb))
    all_goals
      go_ret
      first
        | (refine ⟨congrArg (fun b => Ending.returned (Value.bool b)) ?_, HB3.out⟩
           have hq := HR.out
           have hs := HS.out
           go_light
           clear HR HS HE HN
           show z = r
           rw [Bool.eq_iff_iff]
           simp_all
           try omega)
        | (have hf : r = false := by
             have hq := HR.out
             have hs := HS.out
             go_light
             clear HR HS HE HN
             cases r with
             | false => rfl
             | true =>
               exfalso
               obtain ⟨h1, h2, h3, h4⟩ := hq.1 rfl
               simp_all
               try omega
           rw [hf]
           exact ⟨rfl, HB2.out⟩)

theorem exprB_4 (n : Int) (hn : n ≤ 9223372036854775807) (s : ByteArray) (k : Nat) (z : Bool) (nm : Bool) (hnm : nameB s = nm) (r : Bool) (hr : (exprB 4 n s k && z) = r) : r = true ↔ (k = 1 ∧ n = 0 ∧ nm = true ∧ z = true) := by
  have e : exprB 4 n s k = (manyB (exprRow 4).2.2.2.1 k && (decide ((exprRow 4).2.1 ≤ n) && (decide (n ≤ (exprRow 4).2.2.1) && (if (exprRow 4).1 then nameB s else s.toList.isEmpty)))) := rfl
  rw [← hr, e, hnm]
  cases nm <;> cases z <;> simp [manyB, exprRow, exprRows] <;> omega
set_option maxHeartbeats 8000000 in
set_option maxRecDepth 1000000 in
theorem rexpr_4 (n : Int) (hn : n ≤ 9223372036854775807) (s : ByteArray) (pa : Option Addr) (k pc : Nat) (hk : k ≤ pc) (hpc : pc ≤ 9223372036854775807) (w : World) (z : Bool)
    (hE : ∀ W, Below w.heap.size w W → Calls Tryz.prog 69 #[.slice pa k pc] W fun e W' => e = .returned (.bool z) ∧ Below W.heap.size W W') (r : Bool) (hr : (exprB 4 n s k && z) = r) :
    Calls Tryz.prog 86 #[.agg #[.int .i64 4, .int .i64 n, .string s, .slice pa k pc]] w fun e w' => e = .returned (.bool r) ∧ Below w.heap.size w w' := by
  obtain ⟨nm, hnm⟩ : ∃ b, nameB s = b := ⟨_, rfl⟩
  have HE := Lib.hid hE
  have HR := Lib.hid (exprB_4 n hn s k z nm hnm r hr)
  have HN := Lib.hid hnm
  have HS : Hid (nm = true → ¬ s.toList = []) := fun h => toList_ne (by have h' := hnm.trans h; unfold nameB at h'; simp at h'; omega)
  clear hnm hE hr
  cases nm
  all_goals
    go_enter Tryz.func86, Tryz.ntmps86
    go_wp2_with (first
      | (go_at_call 39; refine (rname_r s _ HN.out _).mono ?_; rintro e w' ⟨rfl, hb⟩; have HB2 : Hid (Below w.heap.size w w') := ((Below.refl _ _).alloc (Nat.le_refl _) _).trans (hb.mono (by simp)); have q0 := (hb.cell (p := ⟨w.heap.size, 0, none⟩) (by simp)).trans (show _ = some (Value.int .i64 4) by simp); have q1 := (hb.cell (p := ⟨w.heap.size, 1, none⟩) (by simp)).trans (show _ = some (Value.int .i64 n) by simp); have q2 := (hb.cell (p := ⟨w.heap.size, 2, none⟩) (by simp)).trans (show _ = some (Value.string s) by simp); have q3 := (hb.cell (p := ⟨w.heap.size, 3, none⟩) (by simp)).trans (show _ = some (Value.slice pa k pc) by simp); clear hb)
      | (go_at_call 69; refine (HE.out _ HB2.out).mono ?_; rintro e w3 ⟨rfl, hb⟩; have HB3 := hb_step HB2 hb; clear hb))
    all_goals
      go_ret
      first
        | (refine ⟨congrArg (fun b => Ending.returned (Value.bool b)) ?_, HB3.out⟩
           have hq := HR.out
           have hs := HS.out
           go_light
           clear HR HS HE HN
           show z = r
           rw [Bool.eq_iff_iff]
           simp_all
           try omega)
        | (have hf : r = false := by
             have hq := HR.out
             have hs := HS.out
             go_light
             clear HR HS HE HN
             cases r with
             | false => rfl
             | true =>
               exfalso
               obtain ⟨h1, h2, h3, h4⟩ := hq.1 rfl
               simp_all
               try omega
           rw [hf]
           exact ⟨rfl, HB2.out⟩)

theorem exprB_5 (n : Int) (hn : n ≤ 9223372036854775807) (s : ByteArray) (k : Nat) (z : Bool) (nm : Bool) (hnm : nameB s = nm) (r : Bool) (hr : (exprB 5 n s k && z) = r) : r = true ↔ (k ≤ 8 ∧ n = 0 ∧ nm = true ∧ z = true) := by
  have e : exprB 5 n s k = (manyB (exprRow 5).2.2.2.1 k && (decide ((exprRow 5).2.1 ≤ n) && (decide (n ≤ (exprRow 5).2.2.1) && (if (exprRow 5).1 then nameB s else s.toList.isEmpty)))) := rfl
  rw [← hr, e, hnm]
  cases nm <;> cases z <;> simp [manyB, exprRow, exprRows] <;> omega
set_option maxHeartbeats 8000000 in
set_option maxRecDepth 1000000 in
theorem rexpr_5 (n : Int) (hn : n ≤ 9223372036854775807) (s : ByteArray) (pa : Option Addr) (k pc : Nat) (hk : k ≤ pc) (hpc : pc ≤ 9223372036854775807) (w : World) (z : Bool)
    (hE : ∀ W, Below w.heap.size w W → Calls Tryz.prog 69 #[.slice pa k pc] W fun e W' => e = .returned (.bool z) ∧ Below W.heap.size W W') (r : Bool) (hr : (exprB 5 n s k && z) = r) :
    Calls Tryz.prog 86 #[.agg #[.int .i64 5, .int .i64 n, .string s, .slice pa k pc]] w fun e w' => e = .returned (.bool r) ∧ Below w.heap.size w w' := by
  obtain ⟨nm, hnm⟩ : ∃ b, nameB s = b := ⟨_, rfl⟩
  have HE := Lib.hid hE
  have HR := Lib.hid (exprB_5 n hn s k z nm hnm r hr)
  have HN := Lib.hid hnm
  have HS : Hid (nm = true → ¬ s.toList = []) := fun h => toList_ne (by have h' := hnm.trans h; unfold nameB at h'; simp at h'; omega)
  clear hnm hE hr
  cases nm
  all_goals
    go_enter Tryz.func86, Tryz.ntmps86
    go_wp2_with (first
      | (go_at_call 39; refine (rname_r s _ HN.out _).mono ?_; rintro e w' ⟨rfl, hb⟩; have HB2 : Hid (Below w.heap.size w w') := ((Below.refl _ _).alloc (Nat.le_refl _) _).trans (hb.mono (by simp)); have q0 := (hb.cell (p := ⟨w.heap.size, 0, none⟩) (by simp)).trans (show _ = some (Value.int .i64 5) by simp); have q1 := (hb.cell (p := ⟨w.heap.size, 1, none⟩) (by simp)).trans (show _ = some (Value.int .i64 n) by simp); have q2 := (hb.cell (p := ⟨w.heap.size, 2, none⟩) (by simp)).trans (show _ = some (Value.string s) by simp); have q3 := (hb.cell (p := ⟨w.heap.size, 3, none⟩) (by simp)).trans (show _ = some (Value.slice pa k pc) by simp); clear hb)
      | (go_at_call 69; refine (HE.out _ HB2.out).mono ?_; rintro e w3 ⟨rfl, hb⟩; have HB3 := hb_step HB2 hb; clear hb))
    all_goals
      go_ret
      first
        | (refine ⟨congrArg (fun b => Ending.returned (Value.bool b)) ?_, HB3.out⟩
           have hq := HR.out
           have hs := HS.out
           go_light
           clear HR HS HE HN
           show z = r
           rw [Bool.eq_iff_iff]
           simp_all
           try omega)
        | (have hf : r = false := by
             have hq := HR.out
             have hs := HS.out
             go_light
             clear HR HS HE HN
             cases r with
             | false => rfl
             | true =>
               exfalso
               obtain ⟨h1, h2, h3, h4⟩ := hq.1 rfl
               simp_all
               try omega
           rw [hf]
           exact ⟨rfl, HB2.out⟩)

theorem exprB_6 (n : Int) (hn : n ≤ 9223372036854775807) (s : ByteArray) (k : Nat) (z : Bool) (nm : Bool) (hnm : nameB s = nm) (r : Bool) (hr : (exprB 6 n s k && z) = r) : r = true ↔ (k = 1 ∧ n = 0 ∧ s.toList = [] ∧ z = true) := by
  have e : exprB 6 n s k = (manyB (exprRow 6).2.2.2.1 k && (decide ((exprRow 6).2.1 ≤ n) && (decide (n ≤ (exprRow 6).2.2.1) && (if (exprRow 6).1 then nameB s else s.toList.isEmpty)))) := rfl
  rw [← hr, e, hnm]
  by_cases hs : s.toList = [] <;> cases z <;> simp [manyB, exprRow, exprRows, hs] <;> omega
set_option maxHeartbeats 8000000 in
set_option maxRecDepth 1000000 in
theorem rexpr_6 (n : Int) (hn : n ≤ 9223372036854775807) (s : ByteArray) (pa : Option Addr) (k pc : Nat) (hk : k ≤ pc) (hpc : pc ≤ 9223372036854775807) (w : World) (z : Bool)
    (hE : ∀ W, Below w.heap.size w W → Calls Tryz.prog 69 #[.slice pa k pc] W fun e W' => e = .returned (.bool z) ∧ Below W.heap.size W W') (r : Bool) (hr : (exprB 6 n s k && z) = r) :
    Calls Tryz.prog 86 #[.agg #[.int .i64 6, .int .i64 n, .string s, .slice pa k pc]] w fun e w' => e = .returned (.bool r) ∧ Below w.heap.size w w' := by
  obtain ⟨nm, hnm⟩ : ∃ b, nameB s = b := ⟨_, rfl⟩
  have HE := Lib.hid hE
  have HR := Lib.hid (exprB_6 n hn s k z nm hnm r hr)
  have HN := Lib.hid hnm
  have HS : Hid (nm = true → ¬ s.toList = []) := fun h => toList_ne (by have h' := hnm.trans h; unfold nameB at h'; simp at h'; omega)
  clear hnm hE hr
  cases nm
  all_goals
    go_enter Tryz.func86, Tryz.ntmps86
    go_wp2_with (first
      | (go_at_call 39; refine (rname_r s _ HN.out _).mono ?_; rintro e w' ⟨rfl, hb⟩; have HB2 : Hid (Below w.heap.size w w') := ((Below.refl _ _).alloc (Nat.le_refl _) _).trans (hb.mono (by simp)); have q0 := (hb.cell (p := ⟨w.heap.size, 0, none⟩) (by simp)).trans (show _ = some (Value.int .i64 6) by simp); have q1 := (hb.cell (p := ⟨w.heap.size, 1, none⟩) (by simp)).trans (show _ = some (Value.int .i64 n) by simp); have q2 := (hb.cell (p := ⟨w.heap.size, 2, none⟩) (by simp)).trans (show _ = some (Value.string s) by simp); have q3 := (hb.cell (p := ⟨w.heap.size, 3, none⟩) (by simp)).trans (show _ = some (Value.slice pa k pc) by simp); clear hb)
      | (go_at_call 69; refine (HE.out _ HB2.out).mono ?_; rintro e w3 ⟨rfl, hb⟩; have HB3 := hb_step HB2 hb; clear hb))
    all_goals
      go_ret
      first
        | (refine ⟨congrArg (fun b => Ending.returned (Value.bool b)) ?_, HB3.out⟩
           have hq := HR.out
           have hs := HS.out
           go_light
           clear HR HS HE HN
           show z = r
           rw [Bool.eq_iff_iff]
           simp_all
           try omega)
        | (have hf : r = false := by
             have hq := HR.out
             have hs := HS.out
             go_light
             clear HR HS HE HN
             cases r with
             | false => rfl
             | true =>
               exfalso
               obtain ⟨h1, h2, h3, h4⟩ := hq.1 rfl
               simp_all
               try omega
           rw [hf]
           exact ⟨rfl, HB2.out⟩)

theorem exprB_7 (n : Int) (hn : n ≤ 9223372036854775807) (s : ByteArray) (k : Nat) (z : Bool) (nm : Bool) (hnm : nameB s = nm) (r : Bool) (hr : (exprB 7 n s k && z) = r) : r = true ↔ (k = 1 ∧ n = 0 ∧ s.toList = [] ∧ z = true) := by
  have e : exprB 7 n s k = (manyB (exprRow 7).2.2.2.1 k && (decide ((exprRow 7).2.1 ≤ n) && (decide (n ≤ (exprRow 7).2.2.1) && (if (exprRow 7).1 then nameB s else s.toList.isEmpty)))) := rfl
  rw [← hr, e, hnm]
  by_cases hs : s.toList = [] <;> cases z <;> simp [manyB, exprRow, exprRows, hs] <;> omega
set_option maxHeartbeats 8000000 in
set_option maxRecDepth 1000000 in
theorem rexpr_7 (n : Int) (hn : n ≤ 9223372036854775807) (s : ByteArray) (pa : Option Addr) (k pc : Nat) (hk : k ≤ pc) (hpc : pc ≤ 9223372036854775807) (w : World) (z : Bool)
    (hE : ∀ W, Below w.heap.size w W → Calls Tryz.prog 69 #[.slice pa k pc] W fun e W' => e = .returned (.bool z) ∧ Below W.heap.size W W') (r : Bool) (hr : (exprB 7 n s k && z) = r) :
    Calls Tryz.prog 86 #[.agg #[.int .i64 7, .int .i64 n, .string s, .slice pa k pc]] w fun e w' => e = .returned (.bool r) ∧ Below w.heap.size w w' := by
  obtain ⟨nm, hnm⟩ : ∃ b, nameB s = b := ⟨_, rfl⟩
  have HE := Lib.hid hE
  have HR := Lib.hid (exprB_7 n hn s k z nm hnm r hr)
  have HN := Lib.hid hnm
  have HS : Hid (nm = true → ¬ s.toList = []) := fun h => toList_ne (by have h' := hnm.trans h; unfold nameB at h'; simp at h'; omega)
  clear hnm hE hr
  cases nm
  all_goals
    go_enter Tryz.func86, Tryz.ntmps86
    go_wp2_with (first
      | (go_at_call 39; refine (rname_r s _ HN.out _).mono ?_; rintro e w' ⟨rfl, hb⟩; have HB2 : Hid (Below w.heap.size w w') := ((Below.refl _ _).alloc (Nat.le_refl _) _).trans (hb.mono (by simp)); have q0 := (hb.cell (p := ⟨w.heap.size, 0, none⟩) (by simp)).trans (show _ = some (Value.int .i64 7) by simp); have q1 := (hb.cell (p := ⟨w.heap.size, 1, none⟩) (by simp)).trans (show _ = some (Value.int .i64 n) by simp); have q2 := (hb.cell (p := ⟨w.heap.size, 2, none⟩) (by simp)).trans (show _ = some (Value.string s) by simp); have q3 := (hb.cell (p := ⟨w.heap.size, 3, none⟩) (by simp)).trans (show _ = some (Value.slice pa k pc) by simp); clear hb)
      | (go_at_call 69; refine (HE.out _ HB2.out).mono ?_; rintro e w3 ⟨rfl, hb⟩; have HB3 := hb_step HB2 hb; clear hb))
    all_goals
      go_ret
      first
        | (refine ⟨congrArg (fun b => Ending.returned (Value.bool b)) ?_, HB3.out⟩
           have hq := HR.out
           have hs := HS.out
           go_light
           clear HR HS HE HN
           show z = r
           rw [Bool.eq_iff_iff]
           simp_all
           try omega)
        | (have hf : r = false := by
             have hq := HR.out
             have hs := HS.out
             go_light
             clear HR HS HE HN
             cases r with
             | false => rfl
             | true =>
               exfalso
               obtain ⟨h1, h2, h3, h4⟩ := hq.1 rfl
               simp_all
               try omega
           rw [hf]
           exact ⟨rfl, HB2.out⟩)

theorem exprB_8 (n : Int) (hn : n ≤ 9223372036854775807) (s : ByteArray) (k : Nat) (z : Bool) (nm : Bool) (hnm : nameB s = nm) (r : Bool) (hr : (exprB 8 n s k && z) = r) : r = true ↔ (k = 2 ∧ n = 0 ∧ s.toList = [] ∧ z = true) := by
  have e : exprB 8 n s k = (manyB (exprRow 8).2.2.2.1 k && (decide ((exprRow 8).2.1 ≤ n) && (decide (n ≤ (exprRow 8).2.2.1) && (if (exprRow 8).1 then nameB s else s.toList.isEmpty)))) := rfl
  rw [← hr, e, hnm]
  by_cases hs : s.toList = [] <;> cases z <;> simp [manyB, exprRow, exprRows, hs] <;> omega
set_option maxHeartbeats 8000000 in
set_option maxRecDepth 1000000 in
theorem rexpr_8 (n : Int) (hn : n ≤ 9223372036854775807) (s : ByteArray) (pa : Option Addr) (k pc : Nat) (hk : k ≤ pc) (hpc : pc ≤ 9223372036854775807) (w : World) (z : Bool)
    (hE : ∀ W, Below w.heap.size w W → Calls Tryz.prog 69 #[.slice pa k pc] W fun e W' => e = .returned (.bool z) ∧ Below W.heap.size W W') (r : Bool) (hr : (exprB 8 n s k && z) = r) :
    Calls Tryz.prog 86 #[.agg #[.int .i64 8, .int .i64 n, .string s, .slice pa k pc]] w fun e w' => e = .returned (.bool r) ∧ Below w.heap.size w w' := by
  obtain ⟨nm, hnm⟩ : ∃ b, nameB s = b := ⟨_, rfl⟩
  have HE := Lib.hid hE
  have HR := Lib.hid (exprB_8 n hn s k z nm hnm r hr)
  have HN := Lib.hid hnm
  have HS : Hid (nm = true → ¬ s.toList = []) := fun h => toList_ne (by have h' := hnm.trans h; unfold nameB at h'; simp at h'; omega)
  clear hnm hE hr
  cases nm
  all_goals
    go_enter Tryz.func86, Tryz.ntmps86
    go_wp2_with (first
      | (go_at_call 39; refine (rname_r s _ HN.out _).mono ?_; rintro e w' ⟨rfl, hb⟩; have HB2 : Hid (Below w.heap.size w w') := ((Below.refl _ _).alloc (Nat.le_refl _) _).trans (hb.mono (by simp)); have q0 := (hb.cell (p := ⟨w.heap.size, 0, none⟩) (by simp)).trans (show _ = some (Value.int .i64 8) by simp); have q1 := (hb.cell (p := ⟨w.heap.size, 1, none⟩) (by simp)).trans (show _ = some (Value.int .i64 n) by simp); have q2 := (hb.cell (p := ⟨w.heap.size, 2, none⟩) (by simp)).trans (show _ = some (Value.string s) by simp); have q3 := (hb.cell (p := ⟨w.heap.size, 3, none⟩) (by simp)).trans (show _ = some (Value.slice pa k pc) by simp); clear hb)
      | (go_at_call 69; refine (HE.out _ HB2.out).mono ?_; rintro e w3 ⟨rfl, hb⟩; have HB3 := hb_step HB2 hb; clear hb))
    all_goals
      go_ret
      first
        | (refine ⟨congrArg (fun b => Ending.returned (Value.bool b)) ?_, HB3.out⟩
           have hq := HR.out
           have hs := HS.out
           go_light
           clear HR HS HE HN
           show z = r
           rw [Bool.eq_iff_iff]
           simp_all
           try omega)
        | (have hf : r = false := by
             have hq := HR.out
             have hs := HS.out
             go_light
             clear HR HS HE HN
             cases r with
             | false => rfl
             | true =>
               exfalso
               obtain ⟨h1, h2, h3, h4⟩ := hq.1 rfl
               simp_all
               try omega
           rw [hf]
           exact ⟨rfl, HB2.out⟩)

end Go.Proofs.YthjjcmmonjajhaaGreatDoor
