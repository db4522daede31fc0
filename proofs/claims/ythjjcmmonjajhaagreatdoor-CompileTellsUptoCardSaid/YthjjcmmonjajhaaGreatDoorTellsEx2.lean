/- The document's expr, op by op (printed by gen_ex.py). -/
import Derived.Test.YthjjcmmonjajhaaGreatDoorLexes
import Derived.Test.YthjjcmmonjajhaaGreatDoorTellsAll
import Derived.Deep.Light
namespace Go.Proofs.YthjjcmmonjajhaaGreatDoor
open Go.RowKit Go.Sort
set_option linter.unusedVariables false

theorem exprB_9 (n : Int) (hn : n ≤ 9223372036854775807) (s : ByteArray) (k : Nat) (z : Bool) (nm : Bool) (hnm : nameB s = nm) (r : Bool) (hr : (exprB 9 n s k && z) = r) : r = true ↔ (k = 2 ∧ n = 0 ∧ s.toList = [] ∧ z = true) := by
  have e : exprB 9 n s k = (manyB (exprRow 9).2.2.2.1 k && (decide ((exprRow 9).2.1 ≤ n) && (decide (n ≤ (exprRow 9).2.2.1) && (if (exprRow 9).1 then nameB s else s.toList.isEmpty)))) := rfl
  rw [← hr, e, hnm]
  by_cases hs : s.toList = [] <;> cases z <;> simp [manyB, exprRow, exprRows, hs] <;> omega
set_option maxHeartbeats 8000000 in
set_option maxRecDepth 1000000 in
theorem rexpr_9 (n : Int) (hn : n ≤ 9223372036854775807) (s : ByteArray) (pa : Option Addr) (k pc : Nat) (hk : k ≤ pc) (hpc : pc ≤ 9223372036854775807) (w : World) (z : Bool)
    (hE : ∀ W, Below w.heap.size w W → Calls Tryz.prog 69 #[.slice pa k pc] W fun e W' => e = .returned (.bool z) ∧ Below W.heap.size W W') (r : Bool) (hr : (exprB 9 n s k && z) = r) :
    Calls Tryz.prog 86 #[.agg #[.int .i64 9, .int .i64 n, .string s, .slice pa k pc]] w fun e w' => e = .returned (.bool r) ∧ Below w.heap.size w w' := by
  obtain ⟨nm, hnm⟩ : ∃ b, nameB s = b := ⟨_, rfl⟩
  have HE := Lib.hid hE
  have HR := Lib.hid (exprB_9 n hn s k z nm hnm r hr)
  have HN := Lib.hid hnm
  have HS : Hid (nm = true → ¬ s.toList = []) := fun h => toList_ne (by have h' := hnm.trans h; unfold nameB at h'; simp at h'; omega)
  clear hnm hE hr
  cases nm
  all_goals
    go_enter Tryz.func86, Tryz.ntmps86
    go_wp2_with (first
      | (go_at_call 39; refine (rname_r s _ HN.out _).mono ?_; rintro e w' ⟨rfl, hb⟩; have HB2 : Hid (Below w.heap.size w w') := ((Below.refl _ _).alloc (Nat.le_refl _) _).trans (hb.mono (by simp)); have q0 := (hb.cell (p := ⟨w.heap.size, 0, none⟩) (by simp)).trans (show _ = some (Value.int .i64 9) by simp); have q1 := (hb.cell (p := ⟨w.heap.size, 1, none⟩) (by simp)).trans (show _ = some (Value.int .i64 n) by simp); have q2 := (hb.cell (p := ⟨w.heap.size, 2, none⟩) (by simp)).trans (show _ = some (Value.string s) by simp); have q3 := (hb.cell (p := ⟨w.heap.size, 3, none⟩) (by simp)).trans (show _ = some (Value.slice pa k pc) by simp); clear hb)
      | (go_at_call 69; refine (HE.out _ HB2.out).mono ?_; rintro e w3 ⟨rfl, hb⟩; have HB3 := hb_step HB2 hb; clear hb))
    all_goals
      go_ret
      first
        | (refine ⟨congrArg (fun b => Ending.returned (Value.bool b)) ?_, HB3.out⟩
           have hq := HR.out
           have hs := HS.out
           go_light
           clear HR HS HE HN
           show z = r
           rw [Bool.eq_iff_iff]
           simp_all
           try omega)
        | (have hf : r = false := by
             have hq := HR.out
             have hs := HS.out
             go_light
             clear HR HS HE HN
             cases r with
             | false => rfl
             | true =>
               exfalso
               obtain ⟨h1, h2, h3, h4⟩ := hq.1 rfl
               simp_all
               try omega
           rw [hf]
           exact ⟨rfl, HB2.out⟩)

theorem exprB_10 (n : Int) (hn : n ≤ 9223372036854775807) (s : ByteArray) (k : Nat) (z : Bool) (nm : Bool) (hnm : nameB s = nm) (r : Bool) (hr : (exprB 10 n s k && z) = r) : r = true ↔ (k = 2 ∧ n = 0 ∧ s.toList = [] ∧ z = true) := by
  have e : exprB 10 n s k = (manyB (exprRow 10).2.2.2.1 k && (decide ((exprRow 10).2.1 ≤ n) && (decide (n ≤ (exprRow 10).2.2.1) && (if (exprRow 10).1 then nameB s else s.toList.isEmpty)))) := rfl
  rw [← hr, e, hnm]
  by_cases hs : s.toList = [] <;> cases z <;> simp [manyB, exprRow, exprRows, hs] <;> omega
set_option maxHeartbeats 8000000 in
set_option maxRecDepth 1000000 in
theorem rexpr_10 (n : Int) (hn : n ≤ 9223372036854775807) (s : ByteArray) (pa : Option Addr) (k pc : Nat) (hk : k ≤ pc) (hpc : pc ≤ 9223372036854775807) (w : World) (z : Bool)
    (hE : ∀ W, Below w.heap.size w W → Calls Tryz.prog 69 #[.slice pa k pc] W fun e W' => e = .returned (.bool z) ∧ Below W.heap.size W W') (r : Bool) (hr : (exprB 10 n s k && z) = r) :
    Calls Tryz.prog 86 #[.agg #[.int .i64 10, .int .i64 n, .string s, .slice pa k pc]] w fun e w' => e = .returned (.bool r) ∧ Below w.heap.size w w' := by
  obtain ⟨nm, hnm⟩ : ∃ b, nameB s = b := ⟨_, rfl⟩
  have HE := Lib.hid hE
  have HR := Lib.hid (exprB_10 n hn s k z nm hnm r hr)
  have HN := Lib.hid hnm
  have HS : Hid (nm = true → ¬ s.toList = []) := fun h => toList_ne (by have h' := hnm.trans h; unfold nameB at h'; simp at h'; omega)
  clear hnm hE hr
  cases nm
  all_goals
    go_enter Tryz.func86, Tryz.ntmps86
    go_wp2_with (first
      | (go_at_call 39; refine (rname_r s _ HN.out _).mono ?_; rintro e w' ⟨rfl, hb⟩; have HB2 : Hid (Below w.heap.size w w') := ((Below.refl _ _).alloc (Nat.le_refl _) _).trans (hb.mono (by simp)); have q0 := (hb.cell (p := ⟨w.heap.size, 0, none⟩) (by simp)).trans (show _ = some (Value.int .i64 10) by simp); have q1 := (hb.cell (p := ⟨w.heap.size, 1, none⟩) (by simp)).trans (show _ = some (Value.int .i64 n) by simp); have q2 := (hb.cell (p := ⟨w.heap.size, 2, none⟩) (by simp)).trans (show _ = some (Value.string s) by simp); have q3 := (hb.cell (p := ⟨w.heap.size, 3, none⟩) (by simp)).trans (show _ = some (Value.slice pa k pc) by simp); clear hb)
      | (go_at_call 69; refine (HE.out _ HB2.out).mono ?_; rintro e w3 ⟨rfl, hb⟩; have HB3 := hb_step HB2 hb; clear hb))
    all_goals
      go_ret
      first
        | (refine ⟨congrArg (fun b => Ending.returned (Value.bool b)) ?_, HB3.out⟩
           have hq := HR.out
           have hs := HS.out
           go_light
           clear HR HS HE HN
           show z = r
           rw [Bool.eq_iff_iff]
           simp_all
           try omega)
        | (have hf : r = false := by
             have hq := HR.out
             have hs := HS.out
             go_light
             clear HR HS HE HN
             cases r with
             | false => rfl
             | true =>
               exfalso
               obtain ⟨h1, h2, h3, h4⟩ := hq.1 rfl
               simp_all
               try omega
           rw [hf]
           exact ⟨rfl, HB2.out⟩)

theorem exprB_11 (n : Int) (hn : n ≤ 9223372036854775807) (s : ByteArray) (k : Nat) (z : Bool) (nm : Bool) (hnm : nameB s = nm) (r : Bool) (hr : (exprB 11 n s k && z) = r) : r = true ↔ (k = 2 ∧ n = 0 ∧ s.toList = [] ∧ z = true) := by
  have e : exprB 11 n s k = (manyB (exprRow 11).2.2.2.1 k && (decide ((exprRow 11).2.1 ≤ n) && (decide (n ≤ (exprRow 11).2.2.1) && (if (exprRow 11).1 then nameB s else s.toList.isEmpty)))) := rfl
  rw [← hr, e, hnm]
  by_cases hs : s.toList = [] <;> cases z <;> simp [manyB, exprRow, exprRows, hs] <;> omega
set_option maxHeartbeats 8000000 in
set_option maxRecDepth 1000000 in
theorem rexpr_11 (n : Int) (hn : n ≤ 9223372036854775807) (s : ByteArray) (pa : Option Addr) (k pc : Nat) (hk : k ≤ pc) (hpc : pc ≤ 9223372036854775807) (w : World) (z : Bool)
    (hE : ∀ W, Below w.heap.size w W → Calls Tryz.prog 69 #[.slice pa k pc] W fun e W' => e = .returned (.bool z) ∧ Below W.heap.size W W') (r : Bool) (hr : (exprB 11 n s k && z) = r) :
    Calls Tryz.prog 86 #[.agg #[.int .i64 11, .int .i64 n, .string s, .slice pa k pc]] w fun e w' => e = .returned (.bool r) ∧ Below w.heap.size w w' := by
  obtain ⟨nm, hnm⟩ : ∃ b, nameB s = b := ⟨_, rfl⟩
  have HE := Lib.hid hE
  have HR := Lib.hid (exprB_11 n hn s k z nm hnm r hr)
  have HN := Lib.hid hnm
  have HS : Hid (nm = true → ¬ s.toList = []) := fun h => toList_ne (by have h' := hnm.trans h; unfold nameB at h'; simp at h'; omega)
  clear hnm hE hr
  cases nm
  all_goals
    go_enter Tryz.func86, Tryz.ntmps86
    go_wp2_with (first
      | (go_at_call 39; refine (rname_r s _ HN.out _).mono ?_; rintro e w' ⟨rfl, hb⟩; have HB2 : Hid (Below w.heap.size w w') := ((Below.refl _ _).alloc (Nat.le_refl _) _).trans (hb.mono (by simp)); have q0 := (hb.cell (p := ⟨w.heap.size, 0, none⟩) (by simp)).trans (show _ = some (Value.int .i64 11) by simp); have q1 := (hb.cell (p := ⟨w.heap.size, 1, none⟩) (by simp)).trans (show _ = some (Value.int .i64 n) by simp); have q2 := (hb.cell (p := ⟨w.heap.size, 2, none⟩) (by simp)).trans (show _ = some (Value.string s) by simp); have q3 := (hb.cell (p := ⟨w.heap.size, 3, none⟩) (by simp)).trans (show _ = some (Value.slice pa k pc) by simp); clear hb)
      | (go_at_call 69; refine (HE.out _ HB2.out).mono ?_; rintro e w3 ⟨rfl, hb⟩; have HB3 := hb_step HB2 hb; clear hb))
    all_goals
      go_ret
      first
        | (refine ⟨congrArg (fun b => Ending.returned (Value.bool b)) ?_, HB3.out⟩
           have hq := HR.out
           have hs := HS.out
           go_light
           clear HR HS HE HN
           show z = r
           rw [Bool.eq_iff_iff]
           simp_all
           try omega)
        | (have hf : r = false := by
             have hq := HR.out
             have hs := HS.out
             go_light
             clear HR HS HE HN
             cases r with
             | false => rfl
             | true =>
               exfalso
               obtain ⟨h1, h2, h3, h4⟩ := hq.1 rfl
               simp_all
               try omega
           rw [hf]
           exact ⟨rfl, HB2.out⟩)

theorem exprB_12 (n : Int) (hn : n ≤ 9223372036854775807) (s : ByteArray) (k : Nat) (z : Bool) (nm : Bool) (hnm : nameB s = nm) (r : Bool) (hr : (exprB 12 n s k && z) = r) : r = true ↔ (k = 2 ∧ n = 0 ∧ s.toList = [] ∧ z = true) := by
  have e : exprB 12 n s k = (manyB (exprRow 12).2.2.2.1 k && (decide ((exprRow 12).2.1 ≤ n) && (decide (n ≤ (exprRow 12).2.2.1) && (if (exprRow 12).1 then nameB s else s.toList.isEmpty)))) := rfl
  rw [← hr, e, hnm]
  by_cases hs : s.toList = [] <;> cases z <;> simp [manyB, exprRow, exprRows, hs] <;> omega
set_option maxHeartbeats 8000000 in
set_option maxRecDepth 1000000 in
theorem rexpr_12 (n : Int) (hn : n ≤ 9223372036854775807) (s : ByteArray) (pa : Option Addr) (k pc : Nat) (hk : k ≤ pc) (hpc : pc ≤ 9223372036854775807) (w : World) (z : Bool)
    (hE : ∀ W, Below w.heap.size w W → Calls Tryz.prog 69 #[.slice pa k pc] W fun e W' => e = .returned (.bool z) ∧ Below W.heap.size W W') (r : Bool) (hr : (exprB 12 n s k && z) = r) :
    Calls Tryz.prog 86 #[.agg #[.int .i64 12, .int .i64 n, .string s, .slice pa k pc]] w fun e w' => e = .returned (.bool r) ∧ Below w.heap.size w w' := by
  obtain ⟨nm, hnm⟩ : ∃ b, nameB s = b := ⟨_, rfl⟩
  have HE := Lib.hid hE
  have HR := Lib.hid (exprB_12 n hn s k z nm hnm r hr)
  have HN := Lib.hid hnm
  have HS : Hid (nm = true → ¬ s.toList = []) := fun h => toList_ne (by have h' := hnm.trans h; unfold nameB at h'; simp at h'; omega)
  clear hnm hE hr
  cases nm
  all_goals
    go_enter Tryz.func86, Tryz.ntmps86
    go_wp2_with (first
      | (go_at_call 39; refine (rname_r s _ HN.out _).mono ?_; rintro e w' ⟨rfl, hb⟩; have HB2 : Hid (Below w.heap.size w w') := ((Below.refl _ _).alloc (Nat.le_refl _) _).trans (hb.mono (by simp)); have q0 := (hb.cell (p := ⟨w.heap.size, 0, none⟩) (by simp)).trans (show _ = some (Value.int .i64 12) by simp); have q1 := (hb.cell (p := ⟨w.heap.size, 1, none⟩) (by simp)).trans (show _ = some (Value.int .i64 n) by simp); have q2 := (hb.cell (p := ⟨w.heap.size, 2, none⟩) (by simp)).trans (show _ = some (Value.string s) by simp); have q3 := (hb.cell (p := ⟨w.heap.size, 3, none⟩) (by simp)).trans (show _ = some (Value.slice pa k pc) by simp); clear hb)
      | (go_at_call 69; refine (HE.out _ HB2.out).mono ?_; rintro e w3 ⟨rfl, hb⟩; have HB3 := hb_step HB2 hb; clear hb))
    all_goals
      go_ret
      first
        | (refine ⟨congrArg (fun b => Ending.returned (Value.bool b)) ?_, HB3.out⟩
           have hq := HR.out
           have hs := HS.out
           go_light
           clear HR HS HE HN
           show z = r
           rw [Bool.eq_iff_iff]
           simp_all
           try omega)
        | (have hf : r = false := by
             have hq := HR.out
             have hs := HS.out
             go_light
             clear HR HS HE HN
             cases r with
             | false => rfl
             | true =>
               exfalso
               obtain ⟨h1, h2, h3, h4⟩ := hq.1 rfl
               simp_all
               try omega
           rw [hf]
           exact ⟨rfl, HB2.out⟩)

theorem exprB_13 (n : Int) (hn : n ≤ 9223372036854775807) (s : ByteArray) (k : Nat) (z : Bool) (nm : Bool) (hnm : nameB s = nm) (r : Bool) (hr : (exprB 13 n s k && z) = r) : r = true ↔ (k = 2 ∧ n = 0 ∧ s.toList = [] ∧ z = true) := by
  have e : exprB 13 n s k = (manyB (exprRow 13).2.2.2.1 k && (decide ((exprRow 13).2.1 ≤ n) && (decide (n ≤ (exprRow 13).2.2.1) && (if (exprRow 13).1 then nameB s else s.toList.isEmpty)))) := rfl
  rw [← hr, e, hnm]
  by_cases hs : s.toList = [] <;> cases z <;> simp [manyB, exprRow, exprRows, hs] <;> omega
set_option maxHeartbeats 8000000 in
set_option maxRecDepth 1000000 in
theorem rexpr_13 (n : Int) (hn : n ≤ 9223372036854775807) (s : ByteArray) (pa : Option Addr) (k pc : Nat) (hk : k ≤ pc) (hpc : pc ≤ 9223372036854775807) (w : World) (z : Bool)
    (hE : ∀ W, Below w.heap.size w W → Calls Tryz.prog 69 #[.slice pa k pc] W fun e W' => e = .returned (.bool z) ∧ Below W.heap.size W W') (r : Bool) (hr : (exprB 13 n s k && z) = r) :
    Calls Tryz.prog 86 #[.agg #[.int .i64 13, .int .i64 n, .string s, .slice pa k pc]] w fun e w' => e = .returned (.bool r) ∧ Below w.heap.size w w' := by
  obtain ⟨nm, hnm⟩ : ∃ b, nameB s = b := ⟨_, rfl⟩
  have HE := Lib.hid hE
  have HR := Lib.hid (exprB_13 n hn s k z nm hnm r hr)
  have HN := Lib.hid hnm
  have HS : Hid (nm = true → ¬ s.toList = []) := fun h => toList_ne (by have h' := hnm.trans h; unfold nameB at h'; simp at h'; omega)
  clear hnm hE hr
  cases nm
  all_goals
    go_enter Tryz.func86, Tryz.ntmps86
    go_wp2_with (first
      | (go_at_call 39; refine (rname_r s _ HN.out _).mono ?_; rintro e w' ⟨rfl, hb⟩; have HB2 : Hid (Below w.heap.size w w') := ((Below.refl _ _).alloc (Nat.le_refl _) _).trans (hb.mono (by simp)); have q0 := (hb.cell (p := ⟨w.heap.size, 0, none⟩) (by simp)).trans (show _ = some (Value.int .i64 13) by simp); have q1 := (hb.cell (p := ⟨w.heap.size, 1, none⟩) (by simp)).trans (show _ = some (Value.int .i64 n) by simp); have q2 := (hb.cell (p := ⟨w.heap.size, 2, none⟩) (by simp)).trans (show _ = some (Value.string s) by simp); have q3 := (hb.cell (p := ⟨w.heap.size, 3, none⟩) (by simp)).trans (show _ = some (Value.slice pa k pc) by simp); clear hb)
      | (go_at_call 69; refine (HE.out _ HB2.out).mono ?_; rintro e w3 ⟨rfl, hb⟩; have HB3 := hb_step HB2 hb; clear hb))
    all_goals
      go_ret
      first
        | (refine ⟨congrArg (fun b => Ending.returned (Value.bool b)) ?_, HB3.out⟩
           have hq := HR.out
           have hs := HS.out
           go_light
           clear HR HS HE HN
           show z = r
           rw [Bool.eq_iff_iff]
           simp_all
           try omega)
        | (have hf : r = false := by
             have hq := HR.out
             have hs := HS.out
             go_light
             clear HR HS HE HN
             cases r with
             | false => rfl
             | true =>
               exfalso
               obtain ⟨h1, h2, h3, h4⟩ := hq.1 rfl
               simp_all
               try omega
           rw [hf]
           exact ⟨rfl, HB2.out⟩)

theorem exprB_14 (n : Int) (hn : n ≤ 9223372036854775807) (s : ByteArray) (k : Nat) (z : Bool) (nm : Bool) (hnm : nameB s = nm) (r : Bool) (hr : (exprB 14 n s k && z) = r) : r = true ↔ (k = 2 ∧ n = 0 ∧ s.toList = [] ∧ z = true) := by
  have e : exprB 14 n s k = (manyB (exprRow 14).2.2.2.1 k && (decide ((exprRow 14).2.1 ≤ n) && (decide (n ≤ (exprRow 14).2.2.1) && (if (exprRow 14).1 then nameB s else s.toList.isEmpty)))) := rfl
  rw [← hr, e, hnm]
  by_cases hs : s.toList = [] <;> cases z <;> simp [manyB, exprRow, exprRows, hs] <;> omega
set_option maxHeartbeats 8000000 in
set_option maxRecDepth 1000000 in
theorem rexpr_14 (n : Int) (hn : n ≤ 9223372036854775807) (s : ByteArray) (pa : Option Addr) (k pc : Nat) (hk : k ≤ pc) (hpc : pc ≤ 9223372036854775807) (w : World) (z : Bool)
    (hE : ∀ W, Below w.heap.size w W → Calls Tryz.prog 69 #[.slice pa k pc] W fun e W' => e = .returned (.bool z) ∧ Below W.heap.size W W') (r : Bool) (hr : (exprB 14 n s k && z) = r) :
    Calls Tryz.prog 86 #[.agg #[.int .i64 14, .int .i64 n, .string s, .slice pa k pc]] w fun e w' => e = .returned (.bool r) ∧ Below w.heap.size w w' := by
  obtain ⟨nm, hnm⟩ : ∃ b, nameB s = b := ⟨_, rfl⟩
  have HE := Lib.hid hE
  have HR := Lib.hid (exprB_14 n hn s k z nm hnm r hr)
  have HN := Lib.hid hnm
  have HS : Hid (nm = true → ¬ s.toList = []) := fun h => toList_ne (by have h' := hnm.trans h; unfold nameB at h'; simp at h'; omega)
  clear hnm hE hr
  cases nm
  all_goals
    go_enter Tryz.func86, Tryz.ntmps86
    go_wp2_with (first
      | (go_at_call 39; refine (rname_r s _ HN.out _).mono ?_; rintro e w' ⟨rfl, hb⟩; have HB2 : Hid (Below w.heap.size w w') := ((Below.refl _ _).alloc (Nat.le_refl _) _).trans (hb.mono (by simp)); have q0 := (hb.cell (p := ⟨w.heap.size, 0, none⟩) (by simp)).trans (show _ = some (Value.int .i64 14) by simp); have q1 := (hb.cell (p := ⟨w.heap.size, 1, none⟩) (by simp)).trans (show _ = some (Value.int .i64 n) by simp); have q2 := (hb.cell (p := ⟨w.heap.size, 2, none⟩) (by simp)).trans (show _ = some (Value.string s) by simp); have q3 := (hb.cell (p := ⟨w.heap.size, 3, none⟩) (by simp)).trans (show _ = some (Value.slice pa k pc) by simp); clear hb)
      | (go_at_call 69; refine (HE.out _ HB2.out).mono ?_; rintro e w3 ⟨rfl, hb⟩; have HB3 := hb_step HB2 hb; clear hb))
    all_goals
      go_ret
      first
        | (refine ⟨congrArg (fun b => Ending.returned (Value.bool b)) ?_, HB3.out⟩
           have hq := HR.out
           have hs := HS.out
           go_light
           clear HR HS HE HN
           show z = r
           rw [Bool.eq_iff_iff]
           simp_all
           try omega)
        | (have hf : r = false := by
             have hq := HR.out
             have hs := HS.out
             go_light
             clear HR HS HE HN
             cases r with
             | false => rfl
             | true =>
               exfalso
               obtain ⟨h1, h2, h3, h4⟩ := hq.1 rfl
               simp_all
               try omega
           rw [hf]
           exact ⟨rfl, HB2.out⟩)

theorem exprB_15 (n : Int) (hn : n ≤ 9223372036854775807) (s : ByteArray) (k : Nat) (z : Bool) (nm : Bool) (hnm : nameB s = nm) (r : Bool) (hr : (exprB 15 n s k && z) = r) : r = true ↔ (k = 2 ∧ n = 0 ∧ s.toList = [] ∧ z = true) := by
  have e : exprB 15 n s k = (manyB (exprRow 15).2.2.2.1 k && (decide ((exprRow 15).2.1 ≤ n) && (decide (n ≤ (exprRow 15).2.2.1) && (if (exprRow 15).1 then nameB s else s.toList.isEmpty)))) := rfl
  rw [← hr, e, hnm]
  by_cases hs : s.toList = [] <;> cases z <;> simp [manyB, exprRow, exprRows, hs] <;> omega
set_option maxHeartbeats 8000000 in
set_option maxRecDepth 1000000 in
theorem rexpr_15 (n : Int) (hn : n ≤ 9223372036854775807) (s : ByteArray) (pa : Option Addr) (k pc : Nat) (hk : k ≤ pc) (hpc : pc ≤ 9223372036854775807) (w : World) (z : Bool)
    (hE : ∀ W, Below w.heap.size w W → Calls Tryz.prog 69 #[.slice pa k pc] W fun e W' => e = .returned (.bool z) ∧ Below W.heap.size W W') (r : Bool) (hr : (exprB 15 n s k && z) = r) :
    Calls Tryz.prog 86 #[.agg #[.int .i64 15, .int .i64 n, .string s, .slice pa k pc]] w fun e w' => e = .returned (.bool r) ∧ Below w.heap.size w w' := by
  obtain ⟨nm, hnm⟩ : ∃ b, nameB s = b := ⟨_, rfl⟩
  have HE := Lib.hid hE
  have HR := Lib.hid (exprB_15 n hn s k z nm hnm r hr)
  have HN := Lib.hid hnm
  have HS : Hid (nm = true → ¬ s.toList = []) := fun h => toList_ne (by have h' := hnm.trans h; unfold nameB at h'; simp at h'; omega)
  clear hnm hE hr
  cases nm
  all_goals
    go_enter Tryz.func86, Tryz.ntmps86
    go_wp2_with (first
      | (go_at_call 39; refine (rname_r s _ HN.out _).mono ?_; rintro e w' ⟨rfl, hb⟩; have HB2 : Hid (Below w.heap.size w w') := ((Below.refl _ _).alloc (Nat.le_refl _) _).trans (hb.mono (by simp)); have q0 := (hb.cell (p := ⟨w.heap.size, 0, none⟩) (by simp)).trans (show _ = some (Value.int .i64 15) by simp); have q1 := (hb.cell (p := ⟨w.heap.size, 1, none⟩) (by simp)).trans (show _ = some (Value.int .i64 n) by simp); have q2 := (hb.cell (p := ⟨w.heap.size, 2, none⟩) (by simp)).trans (show _ = some (Value.string s) by simp); have q3 := (hb.cell (p := ⟨w.heap.size, 3, none⟩) (by simp)).trans (show _ = some (Value.slice pa k pc) by simp); clear hb)
      | (go_at_call 69; refine (HE.out _ HB2.out).mono ?_; rintro e w3 ⟨rfl, hb⟩; have HB3 := hb_step HB2 hb; clear hb))
    all_goals
      go_ret
      first
        | (refine ⟨congrArg (fun b => Ending.returned (Value.bool b)) ?_, HB3.out⟩
           have hq := HR.out
           have hs := HS.out
           go_light
           clear HR HS HE HN
           show z = r
           rw [Bool.eq_iff_iff]
           simp_all
           try omega)
        | (have hf : r = false := by
             have hq := HR.out
             have hs := HS.out
             go_light
             clear HR HS HE HN
             cases r with
             | false => rfl
             | true =>
               exfalso
               obtain ⟨h1, h2, h3, h4⟩ := hq.1 rfl
               simp_all
               try omega
           rw [hf]
           exact ⟨rfl, HB2.out⟩)

theorem exprB_16 (n : Int) (hn : n ≤ 9223372036854775807) (s : ByteArray) (k : Nat) (z : Bool) (nm : Bool) (hnm : nameB s = nm) (r : Bool) (hr : (exprB 16 n s k && z) = r) : r = true ↔ (k = 2 ∧ n = 0 ∧ s.toList = [] ∧ z = true) := by
  have e : exprB 16 n s k = (manyB (exprRow 16).2.2.2.1 k && (decide ((exprRow 16).2.1 ≤ n) && (decide (n ≤ (exprRow 16).2.2.1) && (if (exprRow 16).1 then nameB s else s.toList.isEmpty)))) := rfl
  rw [← hr, e, hnm]
  by_cases hs : s.toList = [] <;> cases z <;> simp [manyB, exprRow, exprRows, hs] <;> omega
set_option maxHeartbeats 8000000 in
set_option maxRecDepth 1000000 in
theorem rexpr_16 (n : Int) (hn : n ≤ 9223372036854775807) (s : ByteArray) (pa : Option Addr) (k pc : Nat) (hk : k ≤ pc) (hpc : pc ≤ 9223372036854775807) (w : World) (z : Bool)
    (hE : ∀ W, Below w.heap.size w W → Calls Tryz.prog 69 #[.slice pa k pc] W fun e W' => e = .returned (.bool z) ∧ Below W.heap.size W W') (r : Bool) (hr : (exprB 16 n s k && z) = r) :
    Calls Tryz.prog 86 #[.agg #[.int .i64 16, .int .i64 n, .string s, .slice pa k pc]] w fun e w' => e = .returned (.bool r) ∧ Below w.heap.size w w' := by
  obtain ⟨nm, hnm⟩ : ∃ b, nameB s = b := ⟨_, rfl⟩
  have HE := Lib.hid hE
  have HR := Lib.hid (exprB_16 n hn s k z nm hnm r hr)
  have HN := Lib.hid hnm
  have HS : Hid (nm = true → ¬ s.toList = []) := fun h => toList_ne (by have h' := hnm.trans h; unfold nameB at h'; simp at h'; omega)
  clear hnm hE hr
  cases nm
  all_goals
    go_enter Tryz.func86, Tryz.ntmps86
    go_wp2_with (first
      | (go_at_call 39; refine (rname_r s _ HN.out _).mono ?_; rintro e w' ⟨rfl, hb⟩; have HB2 : Hid (Below w.heap.size w w') := ((Below.refl _ _).alloc (Nat.le_refl _) _).trans (hb.mono (by simp)); have q0 := (hb.cell (p := ⟨w.heap.size, 0, none⟩) (by simp)).trans (show _ = some (Value.int .i64 16) by simp); have q1 := (hb.cell (p := ⟨w.heap.size, 1, none⟩) (by simp)).trans (show _ = some (Value.int .i64 n) by simp); have q2 := (hb.cell (p := ⟨w.heap.size, 2, none⟩) (by simp)).trans (show _ = some (Value.string s) by simp); have q3 := (hb.cell (p := ⟨w.heap.size, 3, none⟩) (by simp)).trans (show _ = some (Value.slice pa k pc) by simp); clear hb)
      | (go_at_call 69; refine (HE.out _ HB2.out).mono ?_; rintro e w3 ⟨rfl, hb⟩; have HB3 := hb_step HB2 hb; clear hb))
    all_goals
      go_ret
      first
        | (refine ⟨congrArg (fun b => Ending.returned (Value.bool b)) ?_, HB3.out⟩
           have hq := HR.out
           have hs := HS.out
           go_light
           clear HR HS HE HN
           show z = r
           rw [Bool.eq_iff_iff]
           simp_all
           try omega)
        | (have hf : r = false := by
             have hq := HR.out
             have hs := HS.out
             go_light
             clear HR HS HE HN
             cases r with
             | false => rfl
             | true =>
               exfalso
               obtain ⟨h1, h2, h3, h4⟩ := hq.1 rfl
               simp_all
               try omega
           rw [hf]
           exact ⟨rfl, HB2.out⟩)

set_option maxHeartbeats 8000000 in
set_option maxRecDepth 1000000 in
theorem rexpr_none (o n : Int) (ho : ¬ (1 ≤ o ∧ o < 17)) (s : ByteArray) (pa : Option Addr) (k pc : Nat) (hk : k ≤ pc) (hpc : pc ≤ 9223372036854775807) (w : World) :
    Calls Tryz.prog 86 #[.agg #[.int .i64 o, .int .i64 n, .string s, .slice pa k pc]] w fun e w' => e = .returned (.bool false) ∧ Below w.heap.size w w' := by
  obtain ⟨nm, hnm⟩ : ∃ b, nameB s = b := ⟨_, rfl⟩
  have HN := Lib.hid hnm
  have e1 : (o == 1) = false := by simp; omega
  have e2 : (o == 2) = false := by simp; omega
  have e3 : (o == 3) = false := by simp; omega
  have e4 : (o == 4) = false := by simp; omega
  have e5 : (o == 5) = false := by simp; omega
  have e6 : (o == 6) = false := by simp; omega
  have e7 : (o == 7) = false := by simp; omega
  have e8 : (o != 1) = true := by simp; omega
  have hc : o < 8 ∨ (decide (o < 8) = false ∧ 16 < o) := by
    by_cases h : o < 8
    · exact .inl h
    · exact .inr ⟨by simpa using h, by omega⟩
  clear hnm ho
  rcases hc with hc | ⟨hc, hc2⟩
  all_goals
    cases nm
    all_goals
      go_enter Tryz.func86, Tryz.ntmps86
      go_wp2_with (go_at_call 39; refine (rname_r s _ HN.out _).mono ?_; rintro e w' ⟨rfl, hb⟩; have HB2 : Hid (Below w.heap.size w w') := ((Below.refl _ _).alloc (Nat.le_refl _) _).trans (hb.mono (by simp)); have q0 := (hb.cell (p := ⟨w.heap.size, 0, none⟩) (by simp)).trans (show _ = some (Value.int .i64 o) by simp); have q1 := (hb.cell (p := ⟨w.heap.size, 1, none⟩) (by simp)).trans (show _ = some (Value.int .i64 n) by simp); have q2 := (hb.cell (p := ⟨w.heap.size, 2, none⟩) (by simp)).trans (show _ = some (Value.string s) by simp); have q3 := (hb.cell (p := ⟨w.heap.size, 3, none⟩) (by simp)).trans (show _ = some (Value.slice pa k pc) by simp); clear hb)
      all_goals
        go_ret
        exact ⟨rfl, HB2.out⟩

end Go.Proofs.YthjjcmmonjajhaaGreatDoor
