/- The walks of CodeTells, CodeCosts, CodeNames. -/
import Derived.Test.YtbipfkbjdbdghaaDoorCodeRefLine
import Derived.Test.YtbipfkbjdbdghaaDoorCodeText
namespace Go.Proofs.YtbipfkbjdbdghaaDoor
open Go.RowKit Go.Sort
set_option linter.unusedVariables false
set_option linter.unusedSimpArgs false

section
variable (op : Int) (n : Nat) (hop : ix op = n) (w : World) (ht : Tab w)
include hop ht
theorem takes_v (c : Int) (h : tk n = c) : Calls Tryd.prog 11 #[.int .i64 op] w fun e w' => e = .returned (.int .i64 c) ∧ Below w.heap.size w w' := h ▸ takes_r op n hop w ht
theorem leaves_v (c : Int) (h : lv n = c) : Calls Tryd.prog 12 #[.int .i64 op] w fun e w' => e = .returned (.int .i64 c) ∧ Below w.heap.size w w' := h ▸ leaves_r op n hop w ht
theorem cost_v (c : Int) (h : 1 + mo n = c) : Calls Tryd.prog 13 #[.int .i64 op] w fun e w' => e = .returned (.int .i64 c) ∧ Below w.heap.size w w' := h ▸ cost_r op n hop w ht
theorem fast_v (c d : Int) (h : 1 + mo n = c) (hd : (c + 1) / 2 = d) : Calls Tryd.prog 14 #[.int .i64 op] w fun e w' => e = .returned (.int .i64 d) ∧ Below w.heap.size w w' := by subst h hd; exact fast_r op n hop w ht
end
theorem refof_v (op : Int) (n : Nat) (hop : ix op = n) (w : World) (s : ByteArray) (t1 t2 : Bool) (a b c : Int) (hs0 : nm n = s) (h1 : decide (hs n % 2 = 1) = t1) (h2 : decide (hs n / 2 = 1) = t2) (ha : tk n = a) (hb : lv n = b) (hc : 1 + mo n = c) :
    Calls Tryd.prog 8 #[.int .i64 op] w fun e w' => e = .returned (.agg #[.string s, .int .i64 a, .int .i64 b, .int .i64 c, .bool t1, .bool t2]) ∧ Below w.heap.size w w' := by
  subst ha hb hc
  exact refof_r op n hop s hs0 t1 t2 h1 h2 w

theorem ins_fresh (w : World) : InsIn (w.alloc (.cells #[.int .i64 1, .int .i64 0, .int .i64 5, .int .i64 18, .int .i64 0, .int .i64 0] 33)) w.heap.size 0 [(1, 0, 5), (18, 0, 0)] := by
  refine ⟨by show _ < (w.heap.push _).size; rw [Array.size_push]; omega, fun i hi => ?_⟩
  have : i = 0 ∨ i = 1 := by have : i < 2 := hi; omega
  rcases this with rfl | rfl <;> simp [insAt]
theorem ins_r0 : InsR [(1, 0, 5), (18, 0, 0)] := by
  intro x hx; simp at hx; rcases hx with rfl | rfl <;> simp [R]
theorem txt_d (u : Nat) (h : u < 10) : txt (u : Int) = ⟨#[UInt8.ofNat (48 + u)]⟩ := by
  unfold txt
  rw [Lib.itoa_nonneg, dec_step, if_pos h]
theorem shown_text : (⟨(lines [(1, 0, 5), (18, 0, 0)] 2).toArray⟩ : ByteArray) = ⟨#[48, 32, 112, 117, 115, 104, 32, 53, 10, 49, 32, 114, 101, 116, 117, 114, 110, 10]⟩ := by
  have h0 : txt 0 = ⟨#[48]⟩ := txt_d 0 (by omega)
  have h1 : txt 1 = ⟨#[49]⟩ := txt_d 1 (by omega)
  have h5 : txt 5 = ⟨#[53]⟩ := txt_d 5 (by omega)
  have e1 : (codeLine 0 1 0 5).data.toList = [48, 32, 112, 117, 115, 104, 32, 53, 10] := by
    unfold codeLine; rw [h0, h5]; decide +kernel
  have e2 : (codeLine 1 18 0 0).data.toList = [49, 32, 114, 101, 116, 117, 114, 110, 10] := by
    unfold codeLine; rw [h0, h1]; decide +kernel
  have : lines [(1, 0, 5), (18, 0, 0)] 2 = [48, 32, 112, 117, 115, 104, 32, 53, 10, 49, 32, 114, 101, 116, 117, 114, 110, 10] := by
    rw [lines_next, lines_next]
    show [] ++ (codeLine 0 1 0 5).data.toList ++ (codeLine 1 18 0 0).data.toList = _
    rw [e1, e2]; rfl
  rw [this]

set_option maxHeartbeats 4000000 in
set_option maxRecDepth 1000000 in
theorem shown_r (w : World) (ht : Tab w) :
    Calls Tryd.prog 7 #[] w fun e w' => e = .returned (.bool true) ∧ Below w.heap.size w w' := by
  have HT := Lib.hid ht
  clear ht
  have HB := hb_start w
  go_enter Tryd.func7, Tryd.ntmps7
  go_wp2_with (first | (go_at_call 16; refine (text_r w.heap.size 0 2 [(1, 0, 5), (18, 0, 0)] (by decide) ins_r0 (Nat.le_refl _) _ shown_text _ (ins_fresh w) (Tab.at HT (by repeat (first | exact HB | refine hb_drew ?_ | refine hb_alloc ?_ _)))).mono ?_; rintro e w' ⟨rfl, hb⟩; have HB2 := hb_step (hb_alloc HB _) hb; clear HB; have HB := HB2; clear HB2; clear hb) | (go_at_call 13; refine (cost_v 9 9 rfl _ (Tab.at HT (by repeat (first | exact HB | refine hb_drew ?_ | refine hb_alloc ?_ _))) 8 rfl).mono ?_; rintro e w' ⟨rfl, hb⟩; have HB2 := hb_step HB hb; clear HB; have HB := HB2; clear HB2; clear hb) | (go_at_call 14; refine (fast_v 9 9 rfl _ (Tab.at HT (by repeat (first | exact HB | refine hb_drew ?_ | refine hb_alloc ?_ _))) 8 4 rfl rfl).mono ?_; rintro e w' ⟨rfl, hb⟩; have HB2 := hb_step HB hb; clear HB; have HB := HB2; clear HB2; clear hb) | (go_at_call 11; refine (takes_v 24 24 rfl _ (Tab.at HT (by repeat (first | exact HB | refine hb_drew ?_ | refine hb_alloc ?_ _))) 2 rfl).mono ?_; rintro e w' ⟨rfl, hb⟩; have HB2 := hb_step HB hb; clear HB; have HB := HB2; clear HB2; clear hb) | (go_at_call 12; refine (leaves_v 17 17 rfl _ (Tab.at HT (by repeat (first | exact HB | refine hb_drew ?_ | refine hb_alloc ?_ _))) 1 rfl).mono ?_; rintro e w' ⟨rfl, hb⟩; have HB2 := hb_step HB hb; clear HB; have HB := HB2; clear HB2; clear hb) | (go_at_call 9; refine (known_r 0 false rfl _).mono ?_; rintro e w' ⟨rfl, rfl⟩) | (go_at_call 9; refine (known_r 25 true rfl _).mono ?_; rintro e w' ⟨rfl, rfl⟩))
  go_ret
  exact ⟨rfl, HB.out⟩

theorem row_range (n : Nat) (hn : n < 26) : 0 ≤ tk n ∧ tk n ≤ 2 ∧ 0 ≤ lv n ∧ lv n ≤ 1 ∧ (1 ≤ n → 0 ≤ mo n) ∧ mo n ≤ 19 := by
  have key : ∀ i : Fin 26, 0 ≤ tk i.val ∧ tk i.val ≤ 2 ∧ 0 ≤ lv i.val ∧ lv i.val ≤ 1 ∧ (1 ≤ i.val → 0 ≤ mo i.val) ∧ mo i.val ≤ 19 := by decide +kernel
  exact key ⟨n, hn⟩

set_option maxHeartbeats 4000000 in
set_option maxRecDepth 1000000 in
theorem costs_walk (op : Int) (w : World) (ht : Tab w) :
    Calls Tryd.prog 5 #[.int .i64 op] w fun e w' => e = .returned (.bool true) ∧ Below w.heap.size w w' := by
  have HT := Lib.hid ht
  clear ht
  have HB := hb_start w
  by_cases hk : 1 ≤ op ∧ op ≤ 25
  · obtain ⟨n, hn⟩ : ∃ n : Nat, ix op = n := ⟨_, rfl⟩
    have h1 : 1 ≤ n ∧ n < 26 := by unfold ix at hn; rw [if_pos hk] at hn; omega
    obtain ⟨p1, p2, p3, p4, p5, p6⟩ := row_range n h1.2
    have p7 := p5 h1.1
    obtain ⟨t, hT⟩ : ∃ t, tk n = t := ⟨_, rfl⟩
    obtain ⟨l, hL⟩ : ∃ l, lv n = l := ⟨_, rfl⟩
    obtain ⟨c, hC⟩ : ∃ c, 1 + mo n = c := ⟨_, rfl⟩
    obtain ⟨d, hD⟩ : ∃ d, (c + 1) / 2 = d := ⟨_, rfl⟩
    obtain ⟨s, hS⟩ : ∃ s, nm n = s := ⟨_, rfl⟩
    rw [hT] at p1 p2
    rw [hL] at p3 p4
    have q1 : 1 ≤ c := by omega
    have q2 : c ≤ 20 := by omega
    have q3 : 1 ≤ d := by omega
    have q4 : d ≤ c := by omega
    have q5 : c ≤ 2 * d := by omega
    have q6 : 2 * d ≤ c + 1 := by omega
    have HK := Lib.hid hn
    have HKN := Lib.hid (decide_eq_true hk)
    have HC := Lib.hid hC
    have HD := Lib.hid hD
    have HTK := Lib.hid hT
    have HLV := Lib.hid hL
    have HNM := Lib.hid hS
    clear hk hn hC hD hT hL hS h1 p5 p6 p7
    go_enter Tryd.func5, Tryd.ntmps5
    go_wp2_with (first | (go_at_call 7; refine (shown_r _ (Tab.at HT (by repeat (first | exact HB | refine hb_drew ?_ | refine hb_alloc ?_ _)))).mono ?_; rintro e w' ⟨rfl, hb⟩; have HB2 := hb_step HB hb; clear HB; have HB := HB2; clear HB2; clear hb) | (go_at_call 9; refine (known_r _ _ HKN.out _).mono ?_; rintro e w' ⟨rfl, rfl⟩) | (go_at_call 13; refine (cost_v _ _ HK.out _ (Tab.at HT (by repeat (first | exact HB | refine hb_drew ?_ | refine hb_alloc ?_ _))) _ HC.out).mono ?_; rintro e w' ⟨rfl, hb⟩; have HB2 := hb_step HB hb; clear HB; have HB := HB2; clear HB2; clear hb) | (go_at_call 14; refine (fast_v _ _ HK.out _ (Tab.at HT (by repeat (first | exact HB | refine hb_drew ?_ | refine hb_alloc ?_ _))) _ _ HC.out HD.out).mono ?_; rintro e w' ⟨rfl, hb⟩; have HB2 := hb_step HB hb; clear HB; have HB := HB2; clear HB2; clear hb) | (go_at_call 11; refine (takes_v _ _ HK.out _ (Tab.at HT (by repeat (first | exact HB | refine hb_drew ?_ | refine hb_alloc ?_ _))) _ HTK.out).mono ?_; rintro e w' ⟨rfl, hb⟩; have HB2 := hb_step HB hb; clear HB; have HB := HB2; clear HB2; clear hb) | (go_at_call 12; refine (leaves_v _ _ HK.out _ (Tab.at HT (by repeat (first | exact HB | refine hb_drew ?_ | refine hb_alloc ?_ _))) _ HLV.out).mono ?_; rintro e w' ⟨rfl, hb⟩; have HB2 := hb_step HB hb; clear HB; have HB := HB2; clear HB2; clear hb) | (go_at_call 10; refine (name_s _ _ HK.out _ HNM.out _ (Tab.at HT (by repeat (first | exact HB | refine hb_drew ?_ | refine hb_alloc ?_ _)))).mono ?_; rintro e w' ⟨rfl, hb⟩; have HB2 := hb_step HB hb; clear HB; have HB := HB2; clear HB2; clear hb))
    go_ret
    exact ⟨rfl, HB.out⟩
  · have hn : ix op = 0 := by unfold ix; rw [if_neg hk]
    have HK := Lib.hid hn
    have HKN := Lib.hid (decide_eq_false hk)
    have HC : Hid (1 + mo 0 = 0) := rfl
    have HD : Hid (((0 : Int) + 1) / 2 = 0) := rfl
    have HTK : Hid (tk 0 = 0) := rfl
    have HLV : Hid (lv 0 = 0) := rfl
    have HNM : Hid (nm 0 = ⟨#[63]⟩) := rfl
    clear hk hn
    go_enter Tryd.func5, Tryd.ntmps5
    go_wp2_with (first | (go_at_call 7; refine (shown_r _ (Tab.at HT (by repeat (first | exact HB | refine hb_drew ?_ | refine hb_alloc ?_ _)))).mono ?_; rintro e w' ⟨rfl, hb⟩; have HB2 := hb_step HB hb; clear HB; have HB := HB2; clear HB2; clear hb) | (go_at_call 9; refine (known_r _ _ HKN.out _).mono ?_; rintro e w' ⟨rfl, rfl⟩) | (go_at_call 13; refine (cost_v _ _ HK.out _ (Tab.at HT (by repeat (first | exact HB | refine hb_drew ?_ | refine hb_alloc ?_ _))) _ HC.out).mono ?_; rintro e w' ⟨rfl, hb⟩; have HB2 := hb_step HB hb; clear HB; have HB := HB2; clear HB2; clear hb) | (go_at_call 14; refine (fast_v _ _ HK.out _ (Tab.at HT (by repeat (first | exact HB | refine hb_drew ?_ | refine hb_alloc ?_ _))) _ _ HC.out HD.out).mono ?_; rintro e w' ⟨rfl, hb⟩; have HB2 := hb_step HB hb; clear HB; have HB := HB2; clear HB2; clear hb) | (go_at_call 11; refine (takes_v _ _ HK.out _ (Tab.at HT (by repeat (first | exact HB | refine hb_drew ?_ | refine hb_alloc ?_ _))) _ HTK.out).mono ?_; rintro e w' ⟨rfl, hb⟩; have HB2 := hb_step HB hb; clear HB; have HB := HB2; clear HB2; clear hb) | (go_at_call 12; refine (leaves_v _ _ HK.out _ (Tab.at HT (by repeat (first | exact HB | refine hb_drew ?_ | refine hb_alloc ?_ _))) _ HLV.out).mono ?_; rintro e w' ⟨rfl, hb⟩; have HB2 := hb_step HB hb; clear HB; have HB := HB2; clear HB2; clear hb) | (go_at_call 10; refine (name_s _ _ HK.out _ HNM.out _ (Tab.at HT (by repeat (first | exact HB | refine hb_drew ?_ | refine hb_alloc ?_ _)))).mono ?_; rintro e w' ⟨rfl, hb⟩; have HB2 := hb_step HB hb; clear HB; have HB := HB2; clear HB2; clear hb))
    go_ret
    exact ⟨rfl, HB.out⟩

theorem and_mask (n : Int) : ∃ u : Nat, u ≤ 65535 ∧ Go.bits .and .i64 n 65535 = (u : Int) := by
  refine ⟨(BitVec.ofInt 64 n &&& BitVec.ofInt 64 65535).toNat, ?_, ?_⟩
  · rw [BitVec.toNat_and]
    exact Nat.le_trans Nat.and_le_right (by decide)
  · have h : (BitVec.ofInt 64 n &&& BitVec.ofInt 64 65535).toNat ≤ 65535 := by
      rw [BitVec.toNat_and]
      exact Nat.le_trans Nat.and_le_right (by decide)
    have e : Go.bits .and .i64 n 65535 = IntKind.i64.wrap ((BitVec.ofInt 64 n &&& BitVec.ofInt 64 65535).toNat : Int) := rfl
    rw [e, IntKind.wrap_i64]; omega
theorem nm_inj (i k : Nat) (hi : i < 26) (hk : k < 26) : ((nm i).toList == (nm k).toList) = ((i : Int) == (k : Int)) := by
  have key : ∀ i k : Fin 26, ((nm i.val).data.toList == (nm k.val).data.toList) = decide (i.val = k.val) := by decide +kernel
  rw [ByteArray.toList_eq, ByteArray.toList_eq, key ⟨i, hi⟩ ⟨k, hk⟩]
  rw [Bool.eq_iff_iff]; simp; omega

set_option maxHeartbeats 4000000 in
set_option maxRecDepth 1000000 in
theorem names_walk (a b : Int) (w : World) (ht : Tab w) :
    Calls Tryd.prog 6 #[.int .i64 a, .int .i64 b] w fun e w' => e = .returned (.bool true) ∧ Below w.heap.size w w' := by
  have HT := Lib.hid ht
  clear ht
  have HB := hb_start w
  obtain ⟨u, hu, ha⟩ := and_mask a
  obtain ⟨v, hv, hb⟩ := and_mask b
  obtain ⟨i, hi⟩ : ∃ i : Nat, 1 + ((u : Int) % 25) = (i : Int) := ⟨(1 + (u : Int) % 25).toNat, by omega⟩
  obtain ⟨k, hk⟩ : ∃ k : Nat, 1 + ((v : Int) % 25) = (k : Int) := ⟨(1 + (v : Int) % 25).toNat, by omega⟩
  have xi : ix (i : Int) = i := by unfold ix; rw [if_pos (by omega)]; omega
  have xk : ix (k : Int) = k := by unfold ix; rw [if_pos (by omega)]; omega
  have e := nm_inj i k (by omega) (by omega)
  obtain ⟨s, hs⟩ : ∃ s, nm i = s := ⟨_, rfl⟩
  obtain ⟨t, ht⟩ : ∃ t, nm k = t := ⟨_, rfl⟩
  rw [hs, ht] at e
  obtain ⟨q, hq⟩ : ∃ q, ((i : Int) == (k : Int)) = q := ⟨_, rfl⟩
  rw [hq] at e
  have XI := Lib.hid xi
  have XK := Lib.hid xk
  have HS := Lib.hid hs
  have HTT := Lib.hid ht
  clear xi xk hs ht
  cases q
  all_goals
    go_enter Tryd.func6, Tryd.ntmps6
    go_wp2_with (first | (go_at_call 7; refine (shown_r _ (Tab.at HT (by repeat (first | exact HB | refine hb_drew ?_ | refine hb_alloc ?_ _)))).mono ?_; rintro e w' ⟨rfl, hb⟩; have HB2 := hb_step HB hb; clear HB; have HB := HB2; clear HB2; clear hb) | (go_at_call_of 10 i; refine (name_s _ _ XI.out _ HS.out _ (Tab.at HT (by repeat (first | exact HB | refine hb_drew ?_ | refine hb_alloc ?_ _)))).mono ?_; rintro e w' ⟨rfl, hb⟩; have HB2 := hb_step HB hb; clear HB; have HB := HB2; clear HB2; clear hb) | (go_at_call_of 10 k; refine (name_s _ _ XK.out _ HTT.out _ (Tab.at HT (by repeat (first | exact HB | refine hb_drew ?_ | refine hb_alloc ?_ _)))).mono ?_; rintro e w' ⟨rfl, hb⟩; have HB2 := hb_step HB hb; clear HB; have HB := HB2; clear HB2; clear hb))
    go_ret
    exact ⟨rfl, HB.out⟩
end Go.Proofs.YtbipfkbjdbdghaaDoor
