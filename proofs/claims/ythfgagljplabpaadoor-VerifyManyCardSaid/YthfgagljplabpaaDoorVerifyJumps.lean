/- The walk of VerifyJumps. -/
import Derived.Test.YthfgagljplabpaaDoorVerifyShown
import Derived.Test.YthfgagljplabpaaDoorVerifyLaws
import Derived.RangeFuncBox
namespace Go.Proofs.YthfgagljplabpaaDoor
open Go.RowKit Go.Sort
set_option linter.unusedVariables false

theorem i64_and65535 (n : Int) : Go.bits .and .i64 n 65535 = n % 65536 := by
  have h127 : (BitVec.ofInt 64 65535).toNat = 2 ^ 16 - 1 := by decide
  have key : (BitVec.ofInt 64 n &&& BitVec.ofInt 64 65535).toNat = (n % ((2 ^ 64 : Nat) : Int)).toNat % 2 ^ 16 := by
    rw [BitVec.toNat_and, BitVec.toNat_ofInt, h127, Nat.and_two_pow_sub_one_eq_mod]
  show IntKind.i64.wrap ((BitVec.ofInt 64 n &&& BitVec.ofInt 64 65535).toNat : Nat) = n % 65536
  rw [key, IntKind.wrap_i64]
  omega
theorem bits_16 (n : Int) : ∃ x : Int, Go.bits .and .i64 n 65535 = x ∧ 0 ≤ x ∧ x ≤ 65535 := ⟨_, rfl, by rw [i64_and65535]; omega⟩
theorem infoI : (Tryd.prog.info? 25).map (fun i => (i.zero, i.size, i.bytes)) = some (some (.agg #[.int .i64 0, .int .i64 0, .int .i64 0]), 3, 24) := by kernel_rfl
theorem own_ne {w : World} {base : Nat} {e : TypeId} {size n : Nat} {v : Value} {xs : List Value} (h : w.ownsRow base e size v n xs) {B : Nat} (hB : B < base) : some B ≠ v.ownBlock := by
  obtain ⟨_, ⟨rfl, _⟩ | ⟨g, cap, cur, rfl, hb, _⟩⟩ := h
  · simp [Value.ownBlock]
  · simp only [Value.ownBlock]; intro e; cases e; omega
theorem below_own {B : Nat} {w W W' : World} {e : TypeId} {size n : Nat} {v : Value} {xs : List Value} (h : Below B w W) (hs : B ≤ W.heap.size) (ho : W.ownsRow B e size v n xs) (hg : W.grownBy W' v.ownBlock) : Below B w W' :=
  h.grown hg hs (fun r e => by
    rcases Nat.lt_or_ge r B with hr | hr
    · exact absurd e.symm (own_ne ho hr)
    · exact hr)
theorem own_ge {w : World} {base : Nat} {e : TypeId} {size n : Nat} {v : Value} {xs : List Value} (h : w.ownsRow base e size v n xs) {r : Nat} (hr : some r = v.ownBlock) : base ≤ r := by
  rcases Nat.lt_or_ge r base with h' | h'
  · exact absurd hr (own_ne h h')
  · exact h'
/-- What was just written down is one's own row. -/
theorem own_new (w : World) (base : Nat) (e : TypeId) (size n : Nat) (xs : List Value) (hb : base ≤ w.heap.size) (hl : xs.length = n * size) (hn : n ≤ maxLen) : (w.alloc (.cells xs.toArray e)).ownsRow base e size (.slice (some ⟨w.heap.size, 0, none⟩) n n) n xs :=
  ⟨hl, .inr ⟨w.heap.size, n, xs.toArray, rfl, hb, heap_alloc_new w _, Nat.le_refl _, hn, by simpa using hl, by rw [← hl]; simp⟩⟩
theorem addr_add (b o n : Nat) : (⟨b, o, none⟩ : Addr).add n = ⟨b, o + n, none⟩ := by unfold Addr.add; split <;> simp_all
theorem ins_new (w : World) (l : List VI) (t : TypeId) : ∀ j u, (insR l)[j]? = some u → (w.alloc (.cells (insR l).toArray t)).cell? ((⟨w.heap.size, 0, none⟩ : Addr).add j) = some u := by
  intro j u h
  rw [addr_add, Nat.zero_add, cell_of_heap (heap_alloc_new w _)]
  simpa using h
theorem ins_one (l : List VI) : ∀ u ∈ insR l, u.oneCell' = true := by
  intro u hu
  obtain ⟨i, _, hi⟩ := List.mem_flatMap.1 hu
  simp only [insC, List.mem_cons, List.not_mem_nil, or_false] at hi
  rcases hi with rfl | rfl | rfl <;> rfl

theorem jump_isl {w : World} {base : Nat} {v : Value} {T : Int} {k : Nat} (hk : k ≤ 10) (h : w.ownsRow base 25 3 v (k + 2 + 2) (insR ([pushI, ⟨16, T, 0⟩] ++ pushes k) ++ insR [pushI, retI])) : ISl w v (jumpL T k) := by
  have hl : (jumpL T k).length = k + 2 + 2 := by simp [jumpL, pushes]
  refine own_isl (base := base) (e := 25) ?_ ?_
  · rw [hl]; omega
  · rw [hl]; unfold jumpL; rw [insR_append]; exact h

set_option maxHeartbeats 8000000 in
set_option maxRecDepth 1000000 in
theorem jumps_core (ps t1 : Int) (x : Int) (hx : Go.bits .and .i64 ps 65535 = x) (x0 : 0 ≤ x) (m : Nat) (hm : x % 11 = (m : Int)) (hm10 : m ≤ 10) (y : Int) (hy : Go.bits .and .i64 t1 65535 = y) (y0 : 0 ≤ y) (T : Int) (hT : y % ((m : Int) + 4) = T) (hT0 : 0 ≤ T) (hT1 : T < m + 4)
    (v : Int) (hv : (if codeV (jumpF T m) then (0 : Int) else 6) = v) (b : Bool) (hb : (T == 0 || T == 2) = b) (hvb : (v == 0) = b) (w : World) (ht : Tab w) :
    Calls Tryd.prog 4 #[.int .i64 ps, .int .i64 t1] w fun e w' => e = .returned (.bool true) ∧ Below w.heap.size w w' := by
  obtain ⟨i0, hi, hz0, hz1, hz2⟩ := info_parts infoI
  have HT := Lib.hid ht
  have HV := Lib.hid hv
  have hmod : Int.tmod x 11 = x % 11 := Int.tmod_eq_emod_of_nonneg x0
  have hmod2 : Int.tmod y ((m : Int) + 4) = y % ((m : Int) + 4) := Int.tmod_eq_emod_of_nonneg y0
  rw [hm] at hmod
  rw [hT] at hmod2
  clear ht hv hm hT
  go_enter Tryd.func4, Tryd.ntmps4
  go_wp2_with (go_at_call 7; refine (shown_r _ HT.out).mono ?_; rintro e w1 ⟨rfl, hb⟩; have HW1 : Hid (Below w.heap.size w w1) := hb; have HT1 : Hid (Tab w1) := HT.out.below hb; clear hb)
  have HO0 := Lib.hid (own_new w1 w1.heap.size 25 3 2 (insR [pushI, ⟨16, T, 0⟩]) (Nat.le_refl _) rfl (by decide))
  go_loopw [6, 7] (fun v6 i wr => ∃ k : Nat, i = .int .i64 k ∧ k ≤ m ∧ Hid (wr.ownsRow w1.heap.size 25 3 v6 (k + 2) (insR ([pushI, ⟨16, T, 0⟩] ++ pushes k))) ∧ Hid (Below w1.heap.size w1 wr)) (fun _ i _ => m - (intOf i).toNat)
  case atStart => exact ⟨0, rfl, Nat.zero_le _, HO0.out, (Below.refl _ _).alloc (Nat.le_refl _) _⟩
  case round =>
    clear HO0
    obtain ⟨k, rfl, hk, HO, HB⟩ := hrel
    have HBk : Hid (k ≤ 10) := by show k ≤ 10; omega
    by_cases hlt : k < m
    · have HC1 := Lib.hid (ins_new wr [pushI] 25)
      go_wp2_with (at_builtin; refine wpList_append_own _ rfl _ _ 23 rfl w1.heap.size 25 i0 (.agg #[.int .i64 0, .int .i64 0, .int .i64 0]) 3 24 Tryd.underlying23 hi hz0 hz1 hz2 rfl (by decide) _ _ _ rfl (HO.out.alloc _) ⟨wr.heap.size, 0, none⟩ 1 1 (insR [pushI]) rfl rfl HC1.out (ins_one _) (by have := HBk.out; unfold maxLen; omega) (by have := HBk.out; omega) (by have := HB.out.size; rw [World.size_alloc]; omega) ?_; intro v' w2 hown' hgrow _; obtain ⟨g', cap', rfl⟩ := ownsRow_succ hown'; have HO2 := Lib.hid hown'; have HB2 : Hid (Below w1.heap.size w1 w2) := HB.out.alloc HB.out.size _ |>.grown hgrow (by have := HB.out.size; rw [World.size_alloc]; omega) (fun r e => own_ge HO.out e.symm); clear hown' hgrow)
      go_roundw
      case rel => exact ⟨k + 1, by go_num, by omega, by show World.ownsRow _ _ _ _ _ _ _; rw [← pushes_next, ← List.append_assoc, insR_append]; exact HO2.out, HB2⟩
      case measure => simp [intOf]; omega
    · obtain rfl : k = m := by omega
      have HC1 := Lib.hid (ins_new wr [pushI, retI] 25)
      have hb1 : (T == 0) = (T == 0) := rfl
      rcases hT3 : T == 0 with _ | _ <;> rcases hT4 : T == 2 with _ | _
      all_goals
        rw [hT3, hT4] at hb
        subst hb
        clear hb1
        go_wp2_with (first
          | (at_builtin; refine wpList_append_own _ rfl _ _ 23 rfl w1.heap.size 25 i0 (.agg #[.int .i64 0, .int .i64 0, .int .i64 0]) 3 24 Tryd.underlying23 hi hz0 hz1 hz2 rfl (by decide) _ _ _ rfl (HO.out.alloc _) ⟨wr.heap.size, 0, none⟩ 2 2 (insR [pushI, retI]) rfl rfl HC1.out (ins_one _) (by have := HBk.out; unfold maxLen; omega) (by have := HBk.out; omega) (by have := HB.out.size; rw [World.size_alloc]; omega) ?_; intro v' w2 hown' hgrow _; obtain ⟨g', cap', rfl⟩ := ownsRow_succ hown'; have HO2 := Lib.hid hown'; have HB2 : Hid (Below w1.heap.size w1 w2) := HB.out.alloc HB.out.size _ |>.grown hgrow (by have := HB.out.size; rw [World.size_alloc]; omega) (fun r e => own_ge HO.out e.symm); clear hown' hgrow)
          | (go_at_call 11; refine (of1_r _ _ _ (jumpL T k) _ (jump_isl HBk.out HO2.out)).mono ?_; rintro e w3 ⟨b, rfl, hb, hv⟩; have HV3 := Lib.hid hv; have HB3 := hb_step HB2 hb; clear hb hv)
          | (go_at_call 8; refine (code_v (jumpF T k) _ _ _ _ (HT1.out.below HB3.out) HV3.out _ HV.out).mono ?_; rintro e w4 ⟨rfl, hb⟩; have HB4 := hb_step HB3 hb; clear hb))
        go_ret
        exact ⟨rfl, HW1.out.trans (HB4.out.mono HW1.out.size)⟩
theorem jumps_walk (ps t1 : Int) (w : World) (ht : Tab w) :
    Calls Tryd.prog 4 #[.int .i64 ps, .int .i64 t1] w fun e w' => e = .returned (.bool true) ∧ Below w.heap.size w w' := by
  obtain ⟨x, hx, x0, x1⟩ := bits_16 ps
  obtain ⟨y, hy, y0, y1⟩ := bits_16 t1
  obtain ⟨m, hm⟩ : ∃ m : Nat, x % 11 = (m : Int) := ⟨(x % 11).toNat, by omega⟩
  have hpos : (0 : Int) < (m : Int) + 4 := by omega
  have hT0 := Int.emod_nonneg y (show (m : Int) + 4 ≠ 0 by omega)
  have hT1 := Int.emod_lt_of_pos y hpos
  obtain ⟨t, ht'⟩ : ∃ t : Nat, y % ((m : Int) + 4) = (t : Int) := ⟨(y % ((m : Int) + 4)).toNat, by omega⟩
  have hl := jump_law t m (by omega) (by omega)
  refine jumps_core ps t1 x hx x0 m hm (by omega) y hy y0 (t : Int) ht' (by omega) (by omega) _ rfl _ rfl ?_ w ht
  rw [hl]
  have e0 : ((t : Int) == 0) = decide ((t : Int) = 0) := rfl
  have e2 : ((t : Int) == 2) = decide ((t : Int) = 2) := rfl
  rw [e0, e2]
  cases decide ((t : Int) = 0) <;> cases decide ((t : Int) = 2) <;> rfl
end Go.Proofs.YthfgagljplabpaaDoor
