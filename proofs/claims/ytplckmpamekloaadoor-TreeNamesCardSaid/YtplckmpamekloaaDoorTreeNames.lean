/- The walk of TreeNames. -/
import Derived.Test.YtplckmpamekloaaDoorTreeParts
import Derived.Laws.BytesArg
namespace Go.Proofs.YtplckmpamekloaaDoor
open Go.RowKit Go.Sort
set_option linter.unusedVariables false

theorem conv_one (x : Int) (b : ByteArray) (hb : strOfNums [x] = b) (W : World) :
    (convert 44 9 (.slice (some ⟨W.heap.size, 0, none⟩) 1 1)).run Tryd.prog (W.alloc (.cells #[.int .u8 x] 5)) = .ok (.string b) (W.alloc (.cells #[.int .u8 x] 5)) := by
  subst hb
  refine run_convert_bytes_arg _ 44 5 Tryd.underlying44 Tryd.underlying5 W.heap.size 0 1 1 [x] rfl (fun i hi => ?_) 9 Tryd.underlying9
  obtain rfl : i = 0 := by omega
  simp
theorem str_one (c : Int) (h0 : 0 ≤ c) (h1 : c ≤ 255) : strOfNums [c] = ⟨#[c.toNat.toUInt8]⟩ := by rfl
theorem input_right (s : ByteArray) : PT.right ⟨[], [.mk 4 0 s [] [] []]⟩ = if nameB s then 0 else 1 := by
  have h : stmtB 4 0 s 0 0 0 = nameB s := by
    show (_ && (fitsB true 0 0 0 s 0 0 && _)) = nameB s
    unfold fitsB
    simp [manyB]
  unfold PT.right
  rw [heads_nil]
  have hn : PT.nodes ⟨[], [.mk 4 0 s [] [] []]⟩ = [(stmtB 4 0 s 0 0 0, 1)] := rfl
  have hd : PT.depth ⟨[], [.mk 4 0 s [] [] []]⟩ = 1 := by unfold PT.depth; rw [hn]; rfl
  rw [hn, h, hd]
  cases nameB s <;> rfl
theorem byteAt_left (s b : ByteArray) (i : Nat) (h : i < s.size) : byteAt (s ++ b) i = byteAt s i := by
  rw [byteAt_of _ _ (by rw [ByteArray.size_append]; omega), byteAt_of _ _ h]
  congr 1
  congr 1
  exact ByteArray.getElem_append_left h
theorem byteAt_one (c : Int) (h0 : 0 ≤ c) (h1 : c ≤ 255) : byteAt ⟨#[c.toNat.toUInt8]⟩ 0 = c := by
  rw [byteAt_of _ _ (by show 0 < 1; omega)]
  show ((c.toNat.toUInt8).toNat : Int) = c
  have : (c.toNat.toUInt8).toNat = c.toNat := by
    show c.toNat % 256 = c.toNat; omega
  rw [this]; omega
theorem byteAt_right (s b : ByteArray) (hb : 0 < b.size) : byteAt (s ++ b) s.size = byteAt b 0 := by
  rw [byteAt_of _ _ (by rw [ByteArray.size_append]; omega), byteAt_of _ _ hb]
  congr 1
  congr 1
  rw [ByteArray.getElem_append_right (Nat.le_refl _)]
  simp
theorem name_parts (s : ByteArray) (h : nameB s = true) : (1 ≤ s.size ∧ s.size ≤ 32) ∧ letterB (byteAt s 0) = true ∧ anyBad s s.size = false := by
  unfold nameB at h
  simp only [Bool.and_eq_true, decide_eq_true_eq, Bool.not_eq_true'] at h
  exact ⟨⟨by omega, h.1.2⟩, h.2.1, h.2.2.2⟩
theorem name_behind (s : ByteArray) (c : Int) (h0 : 0 ≤ c) (h1 : c ≤ 255) (h : nameB (s ++ ⟨#[c.toNat.toUInt8]⟩) = true) : innerB c = true ∧ s.size + 1 ≤ 32 := by
  obtain ⟨⟨_, h2⟩, _, h3⟩ := name_parts _ h
  have hz : (s ++ (⟨#[c.toNat.toUInt8]⟩ : ByteArray)).size = s.size + 1 := by rw [ByteArray.size_append]; rfl
  rw [hz] at h2 h3
  refine ⟨?_, h2⟩
  rw [anyBad_next] at h3
  simp only [Bool.or_eq_false_iff, Bool.not_eq_false'] at h3
  have := h3.2
  rwa [byteAt_right _ _ (by show 0 < 1; omega), byteAt_one c h0 h1] at this
theorem name_ahead (s : ByteArray) (c : Int) (h0 : 0 ≤ c) (h1 : c ≤ 255) (h : nameB (⟨#[c.toNat.toUInt8]⟩ ++ s) = true) : letterB c = true := by
  obtain ⟨_, h2, _⟩ := name_parts _ h
  rwa [byteAt_left _ _ 0 (by show 0 < 1; omega), byteAt_one c h0 h1] at h2

set_option maxHeartbeats 4000000 in
set_option maxRecDepth 1000000 in
theorem names_no (s : ByteArray) (c : Int) (s' : ByteArray) (hs : s.size ≤ 140737488351232) (hs' : (s.size ≤ 40 ∧ s' = s) ∨ (40 < s.size ∧ s.extract 0 40 = s')) (hn : nameB s' = false) (w : World) (ht : Tab w) :
    Calls Tryd.prog 7 #[.string s, .int .u8 c] w fun e w' => e = .returned (.bool true) ∧ Below w.heap.size w w' := by
  have HR := Lib.hid (show PT.right ⟨[], [.mk 4 0 s' [] [] []]⟩ = 1 by rw [input_right, hn]; rfl)
  have HN := Lib.hid hn
  have HT := Lib.hid ht
  clear hn ht
  obtain ⟨b, hbb⟩ : ∃ b : ByteArray, b = b := ⟨⟨#[]⟩, rfl⟩
  have HQ1 : Hid (nameB (s' ++ b) = nameB (s' ++ b)) := rfl
  have HQ2 : Hid (nameB (b ++ s') = nameB (b ++ s')) := rfl
  clear hbb
  rcases hs' with ⟨h40, rfl⟩ | ⟨h40, he⟩
  all_goals
   go_enter Tryd.func7, Tryd.ntmps7
   go_wp2_with (first
       | (go_at_call 11; refine (shown_r _ HT.out).mono ?_; rintro e w1 ⟨rfl, hb⟩; have HB : Hid (Below w.heap.size w w1) := hb; have HT1 : Hid (Tab w1) := HT.out.below hb; clear hb)
       | (go_at_call 20; ((with_reducible refine (name_r s' _ HN.out _).mono ?_)); rintro e w2 ⟨rfl, hb⟩; have HB2 : Hid (Below w.heap.size w w2) := hb_step (by repeat (first | exact HB | refine hb_drew ?_ | refine hb_alloc ?_ _)) hb; clear HB; have HB := HB2; clear HB2; clear hb)
       | (go_at_call 20; ((with_reducible refine (name_r (s' ++ b) _ HQ1.out _).mono ?_)); rintro e w2 ⟨rfl, hb⟩; have HB2 : Hid (Below w.heap.size w w2) := hb_step (by repeat (first | exact HB | refine hb_drew ?_ | refine hb_alloc ?_ _)) hb; clear HB; have HB := HB2; clear HB2; clear hb)
       | (go_at_call 20; ((with_reducible refine (name_r (b ++ s') _ HQ2.out _).mono ?_)); rintro e w2 ⟨rfl, hb⟩; have HB2 : Hid (Below w.heap.size w w2) := hb_step (by repeat (first | exact HB | refine hb_drew ?_ | refine hb_alloc ?_ _)) hb; clear HB; have HB := HB2; clear HB2; clear hb)
       | (go_at_call 12; refine (right_r none _ 0 1 0 1 ⟨[], [.mk 4 0 s' [] [] []]⟩ _ (HT.out.below (hb_alloc HB _).out) (PR.of (FSl.nil _) (SSl.one (heap_alloc_new _ _) (ESl.nil _) (SSl.nil _) (SSl.nil _))) _ HR.out).mono ?_; rintro e w2 ⟨rfl, hb⟩; have HB2 : Hid (Below w.heap.size w w2) := hb_step (hb_alloc HB _) hb; clear HB; have HB := HB2; clear HB2; clear hb))
   go_ret
   exact ⟨rfl, HB.out⟩


set_option maxHeartbeats 8000000 in
set_option maxRecDepth 1000000 in
theorem names_yes (s : ByteArray) (c : Int) (h0 : 0 ≤ c) (h1 : c ≤ 255) (s' b : ByteArray) (hs : s.size ≤ 140737488351232) (hs' : (s.size ≤ 40 ∧ s' = s) ∨ (40 < s.size ∧ s.extract 0 40 = s')) (hn : nameB s' = true) (hb : strOfNums [c] = b) (hbz : b.size = 1) (hz1 : 1 ≤ s'.size) (hz2 : s'.size ≤ 32)
    (q1 q2 : Bool) (hq1 : nameB (s' ++ b) = q1) (hq2 : nameB (b ++ s') = q2) (k1 : q1 = true → innerB c = true ∧ s'.size + 1 ≤ 32) (k2 : q2 = true → letterB c = true) (w : World) (ht : Tab w) :
    Calls Tryd.prog 7 #[.string s, .int .u8 c] w fun e w' => e = .returned (.bool true) ∧ Below w.heap.size w w' := by
  have HR := Lib.hid (show PT.right ⟨[], [.mk 4 0 s' [] [] []]⟩ = 0 by rw [input_right, hn]; rfl)
  have HN := Lib.hid hn
  have HT := Lib.hid ht
  have HQ1 := Lib.hid hq1
  have HQ2 := Lib.hid hq2
  have kc := conv_one _ _ hb
  clear hn ht hq1 hq2 hb
  have hcl : (48 ≤ c ∧ c ≤ 57) ∨ (65 ≤ c ∧ c ≤ 90) ∨ c = 95 ∨ (97 ≤ c ∧ c ≤ 122) ∨ (c < 48 ∨ (57 < c ∧ c < 65) ∨ (90 < c ∧ c < 95) ∨ c = 96 ∨ 122 < c) := by omega
  have hq : (q1 = false ∨ (q1 = true ∧ innerB c = true ∧ s'.size + 1 ≤ 32)) ∧ (q2 = false ∨ (q2 = true ∧ letterB c = true)) := by
    constructor
    · cases q1; exact .inl rfl; exact .inr ⟨rfl, k1 rfl⟩
    · cases q2; exact .inl rfl; exact .inr ⟨rfl, k2 rfl⟩
  clear k1 k2
  have hinn : innerB c = true → (48 ≤ c ∧ c ≤ 57) ∨ (65 ≤ c ∧ c ≤ 90) ∨ c = 95 ∨ (97 ≤ c ∧ c ≤ 122) := by
    unfold innerB letterB; simp only [Bool.or_eq_true, decide_eq_true_eq]; omega
  have hlet : letterB c = true → (65 ≤ c ∧ c ≤ 90) ∨ (97 ≤ c ∧ c ≤ 122) := by
    unfold letterB; simp only [Bool.or_eq_true, decide_eq_true_eq]; omega
  have key : ∀ (d1 d2 d3 d4 d5 d6 d7 : Bool), decide (48 ≤ c) = d1 → decide (c ≤ 57) = d2 → decide (97 ≤ c) = d3 → decide (c ≤ 122) = d4 → decide (65 ≤ c) = d5 → decide (c ≤ 90) = d6 → (c == 95) = d7 →
      ((d1 && d2) || (d3 && d4) || (d5 && d6) || d7) = innerB c ∧ (letterB c = true → d7 = false ∧ (d1 && d2) = false) := by
    intro d1 d2 d3 d4 d5 d6 d7 e1 e2 e3 e4 e5 e6 e7
    subst e1 e2 e3 e4 e5 e6 e7
    have e : (c == 95) = decide (c = 95) := by by_cases h : c = 95 <;> simp [h]
    rw [e]
    constructor
    · unfold innerB letterB
      rw [Bool.eq_iff_iff]
      simp only [Bool.or_eq_true, Bool.and_eq_true, decide_eq_true_eq]; omega
    · intro h
      have := hlet h
      simp only [decide_eq_false_iff_not, Bool.and_eq_false_iff]; omega
  clear key
  have hcs : ((48 ≤ c ∧ c ≤ 57) ∧ q2 = false ∧ (q1 = false ∨ (q1 = true ∧ s'.size + 1 ≤ 32))) ∨ (((65 ≤ c ∧ c ≤ 90) ∨ (97 ≤ c ∧ c ≤ 122)) ∧ (q1 = false ∨ (q1 = true ∧ s'.size + 1 ≤ 32))) ∨ ((95 ≤ c ∧ c ≤ 95) ∧ q2 = false ∧ (q1 = false ∨ (q1 = true ∧ s'.size + 1 ≤ 32))) ∨ ((c < 48 ∨ (57 < c ∧ c < 65) ∨ (90 < c ∧ c < 95) ∨ (96 ≤ c ∧ c ≤ 96) ∨ 122 < c) ∧ q1 = false ∧ q2 = false) := by
    obtain ⟨ha, hb⟩ := hq
    have hb' : q2 = true → (65 ≤ c ∧ c ≤ 90) ∨ (97 ≤ c ∧ c ≤ 122) := fun h => hb.elim (fun e => by rw [e] at h; cases h) (fun e => hlet e.2)
    have ha' : q1 = true → ((48 ≤ c ∧ c ≤ 57) ∨ (65 ≤ c ∧ c ≤ 90) ∨ c = 95 ∨ (97 ≤ c ∧ c ≤ 122)) ∧ s'.size + 1 ≤ 32 := fun h => ha.elim (fun e => by rw [e] at h; cases h) (fun e => ⟨hinn e.2.1, e.2.2⟩)
    cases q1 <;> cases q2 <;> simp at ha' hb' ⊢ <;> omega
  clear hq hinn hlet hcl
  have HCS := Lib.hid hcs
  clear hcs
  rcases hs' with ⟨h40, rfl⟩ | ⟨h40, he⟩
  all_goals
   rcases HCS.out with ⟨hc, rfl, hx⟩ | ⟨hc | hc, hx⟩ | ⟨hc, rfl, hx⟩ | ⟨hc, rfl, rfl⟩
   all_goals first
     | (rcases hx with rfl | ⟨rfl, hx⟩)
     | (rcases hc with hc | hc | hc | hc | hc)
   all_goals try cases q2
   all_goals
     clear HCS
     first | have t1 : decide (48 ≤ c) = true := decide_eq_true (by omega) | have t1 : decide (48 ≤ c) = false := decide_eq_false (by omega)
     first | have t2 : decide (c ≤ 57) = true := decide_eq_true (by omega) | have t2 : decide (c ≤ 57) = false := decide_eq_false (by omega)
     first | have t3 : decide (97 ≤ c) = true := decide_eq_true (by omega) | have t3 : decide (97 ≤ c) = false := decide_eq_false (by omega)
     first | have t4 : decide (c ≤ 122) = true := decide_eq_true (by omega) | have t4 : decide (c ≤ 122) = false := decide_eq_false (by omega)
     first | have t5 : decide (65 ≤ c) = true := decide_eq_true (by omega) | have t5 : decide (65 ≤ c) = false := decide_eq_false (by omega)
     first | have t6 : decide (c ≤ 90) = true := decide_eq_true (by omega) | have t6 : decide (c ≤ 90) = false := decide_eq_false (by omega)
     first | have t7 : (c == 95) = true := by (simp; omega) | have t7 : (c == 95) = false := by (simp; omega)
     go_enter Tryd.func7, Tryd.ntmps7
     go_wp2_with (first
         | (go_at_call 11; refine (shown_r _ HT.out).mono ?_; rintro e w1 ⟨rfl, hb⟩; have HB : Hid (Below w.heap.size w w1) := hb; have HT1 : Hid (Tab w1) := HT.out.below hb; clear hb)
         | (go_at_call 20; ((with_reducible refine (name_r s' _ HN.out _).mono ?_)); rintro e w2 ⟨rfl, hb⟩; have HB2 : Hid (Below w.heap.size w w2) := hb_step (by repeat (first | exact HB | refine hb_drew ?_ | refine hb_alloc ?_ _)) hb; clear HB; have HB := HB2; clear HB2; clear hb)
         | (go_at_call 20; ((with_reducible refine (name_r (s' ++ b) _ HQ1.out _).mono ?_)); rintro e w2 ⟨rfl, hb⟩; have HB2 : Hid (Below w.heap.size w w2) := hb_step (by repeat (first | exact HB | refine hb_drew ?_ | refine hb_alloc ?_ _)) hb; clear HB; have HB := HB2; clear HB2; clear hb)
         | (go_at_call 20; ((with_reducible refine (name_r (b ++ s') _ HQ2.out _).mono ?_)); rintro e w2 ⟨rfl, hb⟩; have HB2 : Hid (Below w.heap.size w w2) := hb_step (by repeat (first | exact HB | refine hb_drew ?_ | refine hb_alloc ?_ _)) hb; clear HB; have HB := HB2; clear HB2; clear hb)
         | (go_at_call 12; refine (right_r none _ 0 1 0 1 ⟨[], [.mk 4 0 s' [] [] []]⟩ _ (HT.out.below (hb_alloc HB _).out) (PR.of (FSl.nil _) (SSl.one (heap_alloc_new _ _) (ESl.nil _) (SSl.nil _) (SSl.nil _))) _ HR.out).mono ?_; rintro e w2 ⟨rfl, hb⟩; have HB2 : Hid (Below w.heap.size w w2) := hb_step (hb_alloc HB _) hb; clear HB; have HB := HB2; clear HB2; clear hb))
     go_ret
     exact ⟨rfl, HB.out⟩

theorem cut_40 (s : ByteArray) : ∃ s' : ByteArray, ((s.size ≤ 40 ∧ s' = s) ∨ (40 < s.size ∧ s.extract 0 40 = s')) := by
  by_cases h : s.size ≤ 40
  · exact ⟨s, .inl ⟨h, rfl⟩⟩
  · exact ⟨_, .inr ⟨by omega, rfl⟩⟩
theorem names_walk (s : ByteArray) (c : Int) (hs : s.size ≤ 140737488351232) (hc : 0 ≤ c ∧ c ≤ 255) (w : World) (ht : Tab w) :
    Calls Tryd.prog 7 #[.string s, .int .u8 c] w fun e w' => e = .returned (.bool true) ∧ Below w.heap.size w w' := by
  obtain ⟨s', hs'⟩ := cut_40 s
  cases hn : nameB s' with
  | false => exact names_no s c s' hs hs' hn w ht
  | true =>
    obtain ⟨⟨z1, z2⟩, _, _⟩ := name_parts s' hn
    refine names_yes s c hc.1 hc.2 s' ⟨#[c.toNat.toUInt8]⟩ hs hs' hn (str_one c hc.1 hc.2) rfl z1 z2 _ _ rfl rfl ?_ ?_ w ht
    · exact name_behind s' c hc.1 hc.2
    · exact name_ahead s' c hc.1 hc.2
end Go.Proofs.YtplckmpamekloaaDoor
