/- tree.head, and the searches for a wrong one. -/
import Derived.Test.YthjjcmmonjajhaaDoorTreePure
namespace Go.Proofs.YthjjcmmonjajhaaDoor
open Go.RowKit Go.Sort
set_option linter.unusedVariables false

set_option maxHeartbeats 1000000 in
set_option maxRecDepth 1000000 in
theorem head1_r (s : ByteArray) (b : Bool) (hb : (!nameB s) = b) (w : World) :
    Calls Tryd.prog 43 #[.string s] w fun e w' => e = .returned (.bool b) ∧ Below w.heap.size w w' := by
  obtain ⟨i, hi⟩ : ∃ i, nameB s = i := ⟨_, rfl⟩
  rw [hi] at hb
  subst hb
  have HI := Lib.hid hi
  clear hi
  have HB := hb_start w
  cases i
  all_goals
    go_enter Tryd.func43, Tryd.ntmps43
    go_wp2_with (go_at_call 42; refine (name_r s _ HI.out _).mono ?_; rintro e w' ⟨rfl, hb⟩; have HB2 : Hid (Below w.heap.size w w') := hb_step HB hb; clear hb)
    go_ret
    exact ⟨rfl, HB2.out⟩

theorem any_take {α : Type} (l : List α) (z : α) (p : α → Bool) (k : Nat) (h : k < l.length) : (l.take (k + 1)).any p = ((l.take k).any p || p (l.getD k z)) := by
  rw [take_next l z k h, List.any_append]; simp
theorem any_at {α : Type} (l : List α) (z : α) (p : α → Bool) (k : Nat) (h : k < l.length) (hp : p (l.getD k z) = true) : l.any p = true := by
  refine List.any_eq_true.2 ⟨_, ?_, hp⟩
  rw [List.getD_eq_getElem?_getD, List.getElem?_eq_getElem h]; exact List.getElem_mem _

set_option maxHeartbeats 2000000 in
set_option maxRecDepth 1000000 in
theorem idxs_r (v : Value) (l : List ByteArray) (q : Bool) (hq : l.any (fun s => !nameB s) = q) (w : World) (h : TSl w v l) :
    Calls Tryd.prog 53 #[v, .func (.func 43) #[] #[]] w fun e w' => (∃ r : Int, e = .returned (.int .i64 r) ∧ decide (0 ≤ r) = q ∧ -1 ≤ r ∧ r ≤ 9223372036854775807) ∧ Below w.heap.size w w' := by
  cases h with
  | mk a b off cap l ha hc hm hcell =>
    have HA := Lib.hid ha
    have HC := Lib.hid hcell
    have HQ := Lib.hid hq
    have hm' : cap ≤ 9223372036854775807 := hm
    clear ha hcell hq hm
    have HB := hb_start w
    go_enter Tryd.func53, Tryd.ntmps53
    go_wp2
    go_loopw [8] (fun i wr => ∃ k : Nat, i = .int .i64 k ∧ k ≤ l.length ∧ Hid (Below w.heap.size w wr) ∧ Hid ((l.take k).any (fun s => !nameB s) = false)) (fun i _ => l.length - (intOf i).toNat)
    case atStart => exact ⟨0, rfl, by omega, HB, by show _ = _; simp⟩
    case round =>
      clear HB
      obtain ⟨k, rfl, hk, HB, HK⟩ := hrel
      by_cases hlt : k < l.length
      · obtain rfl := HA.out (by omega)
        have e0 := HC.out k hlt
        replace e0 := (HB.out.cell (p := ⟨b, off + k, none⟩) (lt_of_cell e0)).trans e0
        have HT := Lib.hid (any_take l ByteArray.empty (fun s => !nameB s) k hlt)
        have HAT := Lib.hid (any_at l ByteArray.empty (fun s => !nameB s) k hlt)
        generalize l.getD k ByteArray.empty = x at e0 HT HAT
        obtain ⟨t, ht⟩ : ∃ t, (!nameB x) = t := ⟨_, rfl⟩
        have HX := Lib.hid ht
        clear ht
        cases t with
        | true =>
          go_wp2_with (go_at_call 43; refine (head1_r x _ HX.out _).mono ?_; rintro e w' ⟨rfl, hb⟩; have HB2 : Hid (Below w.heap.size w w') := hb_step HB hb; clear hb)
          go_ret
          exact ⟨⟨_, rfl, by rw [← HQ.out, HAT.out HX.out]; exact decide_eq_true (by omega), by omega, by omega⟩, HB2.out⟩
        | false =>
          go_wp2_with (go_at_call 43; refine (head1_r x _ HX.out _).mono ?_; rintro e w' ⟨rfl, hb⟩; have HB2 : Hid (Below w.heap.size w w') := hb_step HB hb; clear hb)
          go_roundw
          case rel => exact ⟨k + 1, by go_num, by omega, HB2, by show _ = _; rw [HT.out, HK.out, HX.out]; rfl⟩
          case measure => simp [intOf]; omega
      · obtain rfl : k = l.length := by omega
        go_wp2
        go_ret
        have := HK.out
        rw [List.take_length] at this
        exact ⟨⟨-1, rfl, by rw [← HQ.out, this]; rfl, by omega, by omega⟩, HB.out⟩

set_option maxHeartbeats 1000000 in
set_option maxRecDepth 1000000 in
theorem conts_r (a : Option Addr) (n cap : Nat) (l : List ByteArray) (q : Bool) (hq : l.any (fun s => !nameB s) = q) (w : World) (h : TSl w (.slice a n cap) l) :
    Calls Tryd.prog 40 #[.slice a n cap, .func (.func 43) #[] #[]] w fun e w' => e = .returned (.bool q) ∧ Below w.heap.size w w' := by
  have HH := Lib.hid h
  have HQ := Lib.hid hq
  clear h hq
  have HB := hb_start w
  cases q
  all_goals
    go_enter Tryd.func40, Tryd.ntmps40
    go_wp2_with (go_at_call 53; refine (idxs_r _ l _ HQ.out _ HH.out).mono ?_; rintro e w' ⟨⟨r, rfl, hr, hr0, hr1⟩, hb⟩; have HB2 : Hid (Below w.heap.size w w') := hb_step HB hb; clear hb)
    go_ret
    exact ⟨rfl, HB2.out⟩

set_option maxHeartbeats 4000000 in
set_option maxRecDepth 1000000 in
theorem head_r (s : ByteArray) (a : Option Addr) (cap : Nat) (a2 : Option Addr) (n2 c2 : Nat) (l : List ByteArray) (bs : List ST) (b : Bool) (hb : FT.headB ⟨s, l, bs⟩ = b) (w : World) (h : TSl w (.slice a l.length cap) l) :
    Calls Tryd.prog 25 #[.agg #[.string s, .slice a l.length cap, .slice a2 n2 c2]] w fun e w' => e = .returned (.bool b) ∧ Below w.heap.size w w' := by
  subst hb
  unfold FT.headB
  dsimp only
  obtain ⟨q1, h1⟩ : ∃ q, nameB s = q := ⟨_, rfl⟩
  obtain ⟨q2, h2⟩ : ∃ q, l.any (fun s => !nameB s) = q := ⟨_, rfl⟩
  rw [h1, h2]
  have H1 := Lib.hid h1
  have H2 := Lib.hid h2
  have HH := Lib.hid h
  clear h1 h2 h
  have HB := hb_start w
  have hcase : (decide (l.length ≤ 8) = true ∧ (l.length : Int) ≤ 8) ∨ (decide (l.length ≤ 8) = false ∧ decide ((l.length : Int) ≤ 8) = false) := by
    by_cases h : l.length ≤ 8
    · exact .inl ⟨decide_eq_true h, by omega⟩
    · exact .inr ⟨decide_eq_false h, decide_eq_false (by omega)⟩
  rcases hcase with ⟨h8, h8'⟩ | ⟨h8, h8'⟩
  all_goals
    rw [h8]
    clear h8
    cases q1 <;> cases q2
    all_goals
      go_enter Tryd.func25, Tryd.ntmps25
      go_wp2_with (first
        | (go_at_call 42; refine (name_r s _ H1.out _).mono ?_; rintro e w' ⟨rfl, hb⟩; have HB2 : Hid (Below w.heap.size w w') := hb_step (by repeat (first | exact HB | refine hb_drew ?_ | refine hb_alloc ?_ _)) hb; have k1 := (hb.cell (p := ⟨w.heap.size, 1, none⟩) (by simp)).trans (show _ = some (Value.slice a l.length cap) by simp); clear hb)
        | (go_at_call 40; refine (conts_r _ _ _ l _ H2.out _ (HH.out.stay HB2.out)).mono ?_; rintro e w'' ⟨rfl, hb⟩; have HB3 : Hid (Below w.heap.size w w'') := hb_step HB2 hb; clear hb; clear HB2; have HB2 := HB3))
      go_ret
      exact ⟨rfl, HB2.out⟩

set_option maxHeartbeats 1000000 in
set_option maxRecDepth 1000000 in
theorem right1_r (s : ByteArray) (a : Option Addr) (cap : Nat) (a2 : Option Addr) (n2 c2 : Nat) (l : List ByteArray) (bs : List ST) (b : Bool) (hb : (!FT.headB ⟨s, l, bs⟩) = b) (w : World) (h : TSl w (.slice a l.length cap) l) :
    Calls Tryd.prog 24 #[.agg #[.string s, .slice a l.length cap, .slice a2 n2 c2]] w fun e w' => e = .returned (.bool b) ∧ Below w.heap.size w w' := by
  obtain ⟨i, hi⟩ : ∃ i, FT.headB ⟨s, l, bs⟩ = i := ⟨_, rfl⟩
  rw [hi] at hb
  subst hb
  have HI := Lib.hid hi
  have HH := Lib.hid h
  clear hi h
  have HB := hb_start w
  cases i
  all_goals
    go_enter Tryd.func24, Tryd.ntmps24
    go_wp2_with (go_at_call 25; refine (head_r s a cap a2 n2 c2 l bs _ HI.out _ (HH.out.stay ((Below.refl _ _).alloc (Nat.le_refl _) _))).mono ?_; rintro e w' ⟨rfl, hb⟩; have HB2 : Hid (Below w.heap.size w w') := hb_step (by repeat (first | exact HB | refine hb_drew ?_ | refine hb_alloc ?_ _)) hb; clear hb)
    go_ret
    exact ⟨rfl, HB2.out⟩

theorem TSl.shape {w : World} {v : Value} {l : List ByteArray} (h : TSl w v l) : ∃ a cap, v = .slice a l.length cap := by cases h; exact ⟨_, _, rfl⟩
theorem SSl.shape' {w : World} {v : Value} {l : List ST} (h : SSl w v l) : ∃ a cap, v = .slice a l.length cap := by cases h; exact ⟨_, _, rfl⟩

set_option maxHeartbeats 2000000 in
set_option maxRecDepth 1000000 in
theorem idxf_r (v : Value) (l : List FT) (q : Bool) (hq : l.any (fun f => !f.headB) = q) (w : World) (h : FSl w v l) :
    Calls Tryd.prog 41 #[v, .func (.func 24) #[] #[]] w fun e w' => (∃ r : Int, e = .returned (.int .i64 r) ∧ decide (0 ≤ r) = q ∧ -1 ≤ r ∧ r ≤ 9223372036854775807) ∧ Below w.heap.size w w' := by
  cases h with
  | mk a b off cap l f g ha hc hm hcell hp hbd =>
    have HA := Lib.hid ha
    have HC := Lib.hid hcell
    have HQ := Lib.hid hq
    have HP := Lib.hid hp
    have HD := Lib.hid hbd
    have hm' : cap ≤ 9223372036854775807 := hm
    clear ha hcell hq hm hp hbd
    have HB := hb_start w
    go_enter Tryd.func41, Tryd.ntmps41
    go_wp2
    go_loopw [8] (fun i wr => ∃ k : Nat, i = .int .i64 k ∧ k ≤ l.length ∧ Hid (Below w.heap.size w wr) ∧ Hid ((l.take k).any (fun f => !f.headB) = false)) (fun i _ => l.length - (intOf i).toNat)
    case atStart => exact ⟨0, rfl, by omega, HB, by show _ = _; simp⟩
    case round =>
      clear HB
      obtain ⟨k, rfl, hk, HB, HK⟩ := hrel
      by_cases hlt : k < l.length
      · obtain rfl := HA.out (by omega)
        obtain ⟨e0, e1, e2⟩ := HC.out k hlt
        have hz : b < w.heap.size := lt_of_cell e0
        replace e0 := (HB.out.cell (p := ⟨b, off + k * 3, none⟩) hz).trans e0
        replace e1 := (HB.out.cell (p := ⟨b, off + k * 3 + 1, none⟩) hz).trans e1
        replace e2 := (HB.out.cell (p := ⟨b, off + k * 3 + 2, none⟩) hz).trans e2
        have HPk := Lib.hid (HP.out k hlt)
        have hsh := (HP.out k hlt).shape
        have hsh2 := (HD.out k hlt).shape'
        have HT := Lib.hid (any_take l default (fun f => !f.headB) k hlt)
        have HAT := Lib.hid (any_at l default (fun f => !f.headB) k hlt)
        generalize l.getD k default = x at e0 e1 e2 HT HAT HPk hsh hsh2
        generalize f k = pv at e1 HPk hsh
        generalize g k = pv1 at e2 hsh2
        obtain ⟨s, ps, bs⟩ := x
        dsimp only at e0 HPk hsh hsh2
        obtain ⟨pa, pc, rfl⟩ := hsh
        obtain ⟨pa1, pc1, rfl⟩ := hsh2
        obtain ⟨t, ht⟩ : ∃ t, (!FT.headB ⟨s, ps, bs⟩) = t := ⟨_, rfl⟩
        have HX := Lib.hid ht
        clear ht
        cases t with
        | true =>
          go_wp2_with (go_at_call 24; refine (right1_r s pa pc pa1 _ pc1 ps bs _ HX.out _ (HPk.out.stay HB.out)).mono ?_; rintro e w' ⟨rfl, hb⟩; have HB2 : Hid (Below w.heap.size w w') := hb_step HB hb; clear hb)
          go_ret
          exact ⟨⟨_, rfl, by rw [← HQ.out, HAT.out HX.out]; exact decide_eq_true (by omega), by omega, by omega⟩, HB2.out⟩
        | false =>
          go_wp2_with (go_at_call 24; refine (right1_r s pa pc pa1 _ pc1 ps bs _ HX.out _ (HPk.out.stay HB.out)).mono ?_; rintro e w' ⟨rfl, hb⟩; have HB2 : Hid (Below w.heap.size w w') := hb_step HB hb; clear hb)
          go_roundw
          case rel => exact ⟨k + 1, by go_num, by omega, HB2, by show _ = _; rw [HT.out, HK.out, HX.out]; rfl⟩
          case measure => simp [intOf]; omega
      · obtain rfl : k = l.length := by omega
        go_wp2
        go_ret
        have := HK.out
        rw [List.take_length] at this
        exact ⟨⟨-1, rfl, by rw [← HQ.out, this]; rfl, by omega, by omega⟩, HB.out⟩

set_option maxHeartbeats 1000000 in
set_option maxRecDepth 1000000 in
theorem contf_r (a : Option Addr) (n cap : Nat) (l : List FT) (q : Bool) (hq : l.any (fun f => !f.headB) = q) (w : World) (h : FSl w (.slice a n cap) l) :
    Calls Tryd.prog 23 #[.slice a n cap, .func (.func 24) #[] #[]] w fun e w' => e = .returned (.bool q) ∧ Below w.heap.size w w' := by
  have HH := Lib.hid h
  have HQ := Lib.hid hq
  clear h hq
  have HB := hb_start w
  cases q
  all_goals
    go_enter Tryd.func23, Tryd.ntmps23
    go_wp2_with (go_at_call 41; refine (idxf_r _ l _ HQ.out _ HH.out).mono ?_; rintro e w' ⟨⟨r, rfl, hr, hr0, hr1⟩, hb⟩; have HB2 : Hid (Below w.heap.size w w') := hb_step HB hb; clear hb)
    go_ret
    exact ⟨rfl, HB2.out⟩
end Go.Proofs.YthjjcmmonjajhaaDoor
