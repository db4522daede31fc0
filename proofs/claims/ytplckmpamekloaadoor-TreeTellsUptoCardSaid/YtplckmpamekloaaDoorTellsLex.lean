/- The walk of the document's Lex. -/
import Derived.Test.YtplckmpamekloaaDoorTellsX
namespace Go.Proofs.YtplckmpamekloaaDoor
open Go.RowKit Go.Sort
set_option linter.unusedVariables false

theorem tok_new (w : World) (a b c : Value) (t : TypeId) : ∀ j u, ([a, b, c] : List Value)[j]? = some u → (w.alloc (.cells #[a, b, c] t)).cell? ((⟨w.heap.size, 0, none⟩ : Addr).add j) = some u := by
  intro j u h
  rw [addr_add, Nat.zero_add, cell_of_heap (World.alloc_heap_new w _)]
  simpa using h
theorem own_slice {w : World} {base : Nat} {e : TypeId} {size n : Nat} {v : Value} {xs : List Value} (h : w.ownsRow base e size v (n + 1) xs) : ∃ g cap, v = .slice (some ⟨g, 0, none⟩) (n + 1) cap := ownsRow_succ' h

theorem own_old {w : World} {base : Nat} {e : TypeId} {size n : Nat} {v : Value} {xs : List Value} (h : w.ownsRow base e size v n xs) : some (⟨w.heap.size, 1, none⟩ : Addr).block ≠ v.ownBlock := fun e => by
  have := (h.lt _ e.symm).2
  exact absurd this (Nat.lt_irrefl _)
theorem below_own {B : Nat} {w0 w w' : World} {e : TypeId} {size n : Nat} {v : Value} {xs : List Value} (hb : Below B w0 w) (hB : B ≤ w.heap.size) (ho : w.ownsRow B e size v n xs) (hg : w.grownBy w' v.ownBlock) : Below B w0 w' :=
  hb.grown hg hB (fun r e => (ho.lt r e).1)

set_option maxHeartbeats 8000000 in
set_option maxRecDepth 1000000 in
theorem lex_long (s : ByteArray) (h65 : 65536 < s.size) (w : World) :
    Calls Tryd.prog 42 #[.string s] w fun e w' => (∃ (v : Value) (i e' : Int), e = .returned (.tuple #[v, .int .i64 i, .int .i64 e']) ∧ LexRes s w' v e') ∧ Below w.heap.size w w' := by
  have h : (65536 : Int) < (s.size : Int) := by omega
  go_enter Tryd.func42, Tryd.ntmps42
  go_wp2
  refine bodyPost_ret (results_tmp3 rfl _ _ _) rfl ?_
  exact ⟨⟨.slice none 0 0, 0, 1, rfl, .inl ⟨by decide, rfl, shape_long (by omega)⟩⟩, Below.refl _ _⟩

set_option maxHeartbeats 8000000 in
set_option maxRecDepth 1000000 in
theorem lex_short (s : ByteArray) (h65 : s.size ≤ 65536) (w : World) :
    Calls Tryd.prog 42 #[.string s] w fun e w' => (∃ (v : Value) (i e' : Int), e = .returned (.tuple #[v, .int .i64 i, .int .i64 e']) ∧ LexRes s w' v e') ∧ Below w.heap.size w w' := by
  obtain ⟨iT, hi, hz0, hz1, hz2⟩ := info_parts infoTok
  have h : decide ((65536 : Int) < (s.size : Int)) = false := decide_eq_false (by omega)
  go_enter Tryd.func42, Tryd.ntmps42
  go_wp2_with (go_at_call 56; refine (skip_r s (by omega) 0 (by omega) _).mono ?_; rintro e w' ⟨⟨r0, rfl, hr0, hr1, hr2⟩, rfl⟩; have HR2 := Lib.hid hr2; clear hr2)
  clear h
  go_loopw [5, 6] (fun v i wr => ∃ k m : Nat, ∃ xs : List Value, i = .int .i64 k ∧ k ≤ s.size ∧ m ≤ k ∧ Hid (Below w.heap.size w wr) ∧ Hid (wr.ownsRow w.heap.size 72 3 v m xs) ∧ Hid (LexInv s k m xs)) (fun _ i _ => s.size - (intOf i).toNat)
  case atStart => exact ⟨r0, 0, [], rfl, hr1, by omega, (Below.refl _ _).alloc (Nat.le_refl _) _, own_empty _ _ _ _ (Nat.le_refl _), .inl ⟨rfl, rfl, HR2.out⟩⟩
  case round =>
    clear hr0 hr1
    obtain ⟨k, m, xs, rfl, hk, hmk, HB, HO, HI⟩ := hrel
    by_cases hlt : k < s.size
    · refine ?_
      go_wp2_with fail
      refine (next_r s (by omega) k hlt _).mono ?_
      rintro e w2 ⟨⟨kind, text, at_, wrong, rfl, hn⟩, hb⟩
      have HB2 : Hid (Below w.heap.size w w2) := hb_step HB hb
      have HO2 := Lib.hid (own_hold HO.out hb)
      have HN := Lib.hid hn
      have HSZ := Lib.hid hb.size
      clear hb hn
      by_cases hw : (0 : Int) ≤ wrong
      · go_wp2
        refine bodyPost_ret (results_tmp3 rfl _ _ _) rfl ?_
        exact ⟨⟨.slice none 0 0, wrong, 2, rfl, .inl ⟨by decide, rfl, lex_err HI.out hlt HN.out hw⟩⟩, (hb_alloc HB2 _).out⟩
      · have hw' : decide ((0 : Int) ≤ wrong) = false := decide_eq_false hw
        have HW := Lib.hid hw
        clear hw
        obtain ⟨ht0, ht1⟩ := HN.out.2.2.1 (by have := HW.out; omega)
        have hm65 : m ≤ 65536 := by omega
        have HM65 := Lib.hid hm65
        have hsz : (wr.heap.size) ≤ w2.heap.size := HSZ.out
        have HOA := Lib.hid ((HO2.out.alloc (.cells #[.int .i64 kind, .string text, .int .i64 at_] 72)).alloc (.cells #[.int .i64 kind, .string text, .int .i64 at_] 72))
        have HBA : Hid (Below w.heap.size w ((w2.alloc (.cells #[.int .i64 kind, .string text, .int .i64 at_] 72)).alloc (.cells #[.int .i64 kind, .string text, .int .i64 at_] 72))) := hb_alloc (hb_alloc HB2 _) _
        have HQ : Hid (((w2.alloc (.cells #[.int .i64 kind, .string text, .int .i64 at_] 72)).alloc (.cells #[.int .i64 kind, .string text, .int .i64 at_] 72)).cell? ⟨w2.heap.size, 1, none⟩ = some (.string text)) := by show _ = _; simp
        have HC := Lib.hid (tok_new (w2.alloc (.cells #[.int .i64 kind, .string text, .int .i64 at_] 72)) (.int .i64 kind) (.string text) (.int .i64 at_) 72)
        clear hsz hm65
        go_wp2_with (first
          | (at_builtin; refine wpList_append_own _ rfl _ _ 68 rfl w.heap.size 72 iT (.agg #[.int .i64 0, .string ⟨#[]⟩, .int .i64 0]) 3 32 Tryd.underlying68 hi hz0 hz1 hz2 rfl (by decide) _ _ _ rfl HOA.out ⟨w2.heap.size + 1, 0, none⟩ 1 1 [.int .i64 kind, .string text, .int .i64 at_] rfl rfl (by have := HC.out; rw [World.size_alloc] at this; exact this) (by simp [Value.oneCell']) (by have := HM65.out; unfold maxLen; omega) (by have := HM65.out; omega) HBA.out.size ?_; intro v' w3 hown' hgrow _; obtain ⟨g', cap', rfl⟩ := ownsRow_succ' hown'; have HO3 := Lib.hid hown'; have HB3 : Hid (Below w.heap.size w w3) := below_own HBA.out HBA.out.size HOA.out hgrow; have q1 : w3.cell? ⟨w2.heap.size, 1, none⟩ = some (.string text) := hgrow.cell HQ.out (own_old HO2.out); clear hown' hgrow)
          | (go_at_call 56; refine (skip_r s (by omega) (k + text.size) ht1 _).mono ?_; rintro e w' ⟨⟨r, rfl, hr0, hr1, hr2⟩, rfl⟩; clear hr2))
        go_roundw
        case rel => exact ⟨r, m + 1, _, rfl, hr1, by omega, HB3, HO3, lex_step HI.out hlt HN.out (by have := HW.out; omega) hr0 hr1 _⟩
        case measure => simp [intOf]; omega
    · obtain rfl : k = s.size := by omega
      have HM65 : Hid (m ≤ 65536) := by show m ≤ _; omega
      have HOA := Lib.hid (HO.out.alloc (.cells #[.int .i64 4, .string ⟨#[]⟩, .int .i64 s.size] 72))
      have HBA : Hid (Below w.heap.size w (wr.alloc (.cells #[.int .i64 4, .string ⟨#[]⟩, .int .i64 s.size] 72))) := hb_alloc HB _
      have HC := Lib.hid (tok_new wr (.int .i64 4) (.string ⟨#[]⟩) (.int .i64 s.size) 72)
      go_wp2_with (at_builtin; refine wpList_append_own _ rfl _ _ 68 rfl w.heap.size 72 iT (.agg #[.int .i64 0, .string ⟨#[]⟩, .int .i64 0]) 3 32 Tryd.underlying68 hi hz0 hz1 hz2 rfl (by decide) _ _ _ rfl HOA.out ⟨wr.heap.size, 0, none⟩ 1 1 [.int .i64 4, .string ⟨#[]⟩, .int .i64 s.size] rfl rfl HC.out (by simp [Value.oneCell']) (by have := HM65.out; unfold maxLen; omega) (by have := HM65.out; omega) HBA.out.size ?_; intro v' w3 hown' hgrow _; obtain ⟨g', cap', rfl⟩ := ownsRow_succ' hown'; have HO3 := Lib.hid hown'; have HB3 : Hid (Below w.heap.size w w3) := below_own HBA.out HBA.out.size HOA.out hgrow; clear hown' hgrow)
      refine bodyPost_ret (results_tmp3 rfl _ _ _) rfl ?_
      exact ⟨⟨_, 0, 0, rfl, lex_done HI.out rfl HO3.out⟩, HB3.out⟩
theorem lex_r (s : ByteArray) (w : World) :
    Calls Tryd.prog 42 #[.string s] w fun e w' => (∃ (v : Value) (i e' : Int), e = .returned (.tuple #[v, .int .i64 i, .int .i64 e']) ∧ LexRes s w' v e') ∧ Below w.heap.size w w' := by
  by_cases h : s.size ≤ 65536
  · exact lex_short s h w
  · exact lex_long s (by omega) w
end Go.Proofs.YtplckmpamekloaaDoor
