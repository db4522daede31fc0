/- Whether what was found of a function fits: fits, its closure, the searches. -/
import Derived.Test.YthjjcmmonjajhaaDoorScopeCall
import Derived.Test.YthjjcmmonjajhaaDoorTreeHead
namespace Go.Proofs.YthjjcmmonjajhaaDoor
open Go.RowKit Go.Sort Go.Maps
set_option linter.unusedVariables false

def strangeB (st : FS) (s : ByteArray) : Bool := memB st.vars s || !memB st.made s
def FS.fits (st : FS) : Bool := !st.wrong && !(st.arrays.any (strangeB st))
theorem Nm.look {n0 : Nat} {W : World} {lv mv : Value} {l : List ByteArray} (h : Nm n0 W lv mv l) (s : ByteArray) (hs : s.size ≤ 32) : (∃ o, mv = .map o) ∧ (Instr.lookup 77 mv (.string s) false).run Tryd.prog W = .ok (.bool (memB l s)) W := by
  rcases h.map with ⟨rfl, rfl⟩ | ⟨mb, D, rfl, _, hown, hD⟩
  · exact ⟨⟨_, rfl⟩, look_nil_name W s hs⟩
  · exact ⟨⟨_, rfl⟩, look_name hown hD s hs⟩
theorem own_tsl {w : World} {base : Nat} {v : Value} {l : List ByteArray} (h : w.ownsRow base 9 1 v l.length (l.map Value.string)) : TSl w v l := by
  have h' := h
  obtain ⟨hl, ⟨rfl, h0⟩ | ⟨g, cap, cur, rfl, _, hg, hn, hm, hc, ht⟩⟩ := h
  · obtain rfl : l = [] := List.eq_nil_of_length_eq_zero (by omega)
    exact .mk none 0 0 0 [] (fun h => absurd h (by simp)) (Nat.le_refl _) (Nat.zero_le _) (fun i hi => absurd hi (by simp))
  · refine .mk _ g 0 cap l (fun _ => rfl) (by omega) hm (fun i hi => ?_)
    rw [Nat.zero_add, own_cell h' i (by omega)]
    simp [hi]

set_option maxHeartbeats 2000000 in
set_option maxRecDepth 1000000 in
theorem fits1_r (n0 xb fb : Nat) (cv : Value) (st : FS) (s : ByteArray) (hs : s.size ≤ 32) (W : World) (hx : W.cell? ⟨xb, 0, none⟩ = some (.pointer (some ⟨fb, 0, none⟩))) (hf : Fd n0 W fb cv st) (q : Bool) (hq : strangeB st s = q) :
    Calls Tryd.prog 39 #[.string s, .pointer (some ⟨xb, 0, none⟩)] W fun e w' => e = .returned (.bool q) ∧ w' = W := by
  obtain ⟨hg, l0, m0, l1, m1, l2, m2, hb, ⟨n1, n2, n3⟩, _⟩ := hf
  obtain ⟨⟨o0, rfl⟩, k0⟩ := n1.look s hs
  obtain ⟨⟨o2, rfl⟩, k2⟩ := n3.look s hs
  have c1 : W.cell? ⟨fb, 1, none⟩ = some (.map o0) := cell_of_heap hb 1
  have c5 : W.cell? ⟨fb, 5, none⟩ = some (.map o2) := cell_of_heap hb 5
  unfold strangeB at hq
  generalize memB st.vars s = b0 at k0 hq
  generalize memB st.made s = b2 at k2 hq
  clear hb n1 n2 n3 hg
  subst hq
  cases b0 <;> cases b2
  all_goals
    go_enter Tryd.func39, Tryd.ntmps39
    go_wp2
    go_ret
    exact ⟨rfl, rfl⟩

def fitsV (xb : Nat) : Value := .func (.func 39) #[] #[.pointer (some ⟨xb, 0, none⟩)]
set_option maxHeartbeats 2000000 in
set_option maxRecDepth 1000000 in
theorem fidx_r (n0 xb fb : Nat) (cv : Value) (st : FS) (W : World) (hx : W.cell? ⟨xb, 0, none⟩ = some (.pointer (some ⟨fb, 0, none⟩))) (hf : Fd n0 W fb cv st) (v : Value) (l : List ByteArray) (hl : ∀ s ∈ l, s.size ≤ 32) (q : Bool) (hq : l.any (strangeB st) = q) (h : TSl W v l) :
    Calls Tryd.prog 53 #[v, fitsV xb] W fun e w' => (∃ r : Int, e = .returned (.int .i64 r) ∧ decide (0 ≤ r) = q ∧ -1 ≤ r ∧ r ≤ 9223372036854775807) ∧ w' = W := by
  cases h with
  | mk a b off cap l ha hc hm hcell =>
    have HA := Lib.hid ha
    have HC := Lib.hid hcell
    have HQ := Lib.hid hq
    have HF := Lib.hid hf
    have HX := Lib.hid hx
    have HL : Hid (∀ i, i < l.length → (l.getD i ByteArray.empty).size ≤ 32) := fun i hi => hl _ (by rw [List.getD_eq_getElem?_getD, List.getElem?_eq_getElem hi]; exact List.getElem_mem _)
    have hm' : cap ≤ 9223372036854775807 := hm
    clear ha hcell hq hm hf hx hl
    unfold fitsV
    go_enter Tryd.func53, Tryd.ntmps53
    go_wp2
    go_loop [8] (fun i => ∃ k : Nat, i = .int .i64 k ∧ k ≤ l.length ∧ Hid ((l.take k).any (strangeB st) = false)) (fun i => l.length - (intOf i).toNat)
    case atStart => exact ⟨0, rfl, by omega, by show _ = _; simp⟩
    case round =>
      obtain ⟨k, rfl, hk, HK⟩ := hrel
      by_cases hlt : k < l.length
      · obtain rfl := HA.out (by omega)
        have e0 := HC.out k hlt
        have HT := Lib.hid (any_take l ByteArray.empty (strangeB st) k hlt)
        have HAT := Lib.hid (any_at l ByteArray.empty (strangeB st) k hlt)
        have HS := Lib.hid (HL.out k hlt)
        generalize l.getD k ByteArray.empty = x at e0 HT HAT HS
        obtain ⟨t, ht⟩ : ∃ t, strangeB st x = t := ⟨_, rfl⟩
        have HXX := Lib.hid ht
        clear ht
        cases t with
        | true =>
          go_wp2_with (go_at_call 39; refine (fits1_r n0 xb fb cv st x HS.out _ HX.out HF.out _ HXX.out).mono ?_; rintro e w' ⟨rfl, rfl⟩)
          go_ret
          exact ⟨⟨_, rfl, by rw [← HQ.out, HAT.out HXX.out]; exact decide_eq_true (by omega), by omega, by omega⟩, rfl⟩
        | false =>
          go_wp2_with (go_at_call 39; refine (fits1_r n0 xb fb cv st x HS.out _ HX.out HF.out _ HXX.out).mono ?_; rintro e w' ⟨rfl, rfl⟩)
          go_round
          case rel => exact ⟨k + 1, by go_num, by omega, by show _ = _; rw [HT.out, HK.out, HXX.out]; rfl⟩
          case measure => simp [intOf]; omega
      · obtain rfl : k = l.length := by omega
        go_wp2
        go_ret
        have := HK.out
        rw [List.take_length] at this
        exact ⟨⟨-1, rfl, by rw [← HQ.out, this]; rfl, by omega, by omega⟩, rfl⟩

set_option maxHeartbeats 1000000 in
set_option maxRecDepth 1000000 in
theorem fcont_r (n0 xb fb : Nat) (cv : Value) (st : FS) (W : World) (hx : W.cell? ⟨xb, 0, none⟩ = some (.pointer (some ⟨fb, 0, none⟩))) (hf : Fd n0 W fb cv st) (a : Option Addr) (n cap : Nat) (l : List ByteArray) (hl : ∀ s ∈ l, s.size ≤ 32) (q : Bool) (hq : l.any (strangeB st) = q) (h : TSl W (.slice a n cap) l) :
    Calls Tryd.prog 40 #[.slice a n cap, fitsV xb] W fun e w' => e = .returned (.bool q) ∧ w' = W := by
  have HH := Lib.hid h
  have HQ := Lib.hid hq
  have HF := Lib.hid hf
  have HX := Lib.hid hx
  have HL := Lib.hid hl
  clear h hq hf hx hl
  unfold fitsV
  cases q
  all_goals
    go_enter Tryd.func40, Tryd.ntmps40
    go_wp2_with (go_at_call 53; refine (fidx_r n0 xb fb cv st _ HX.out HF.out _ l HL.out _ HQ.out HH.out).mono ?_; rintro e w' ⟨⟨r, rfl, hr, hr0, hr1⟩, rfl⟩)
    go_ret
    exact ⟨rfl, rfl⟩

set_option maxHeartbeats 2000000 in
set_option maxRecDepth 1000000 in
/-- fits: no call was wrong; each array is made, and no variable. -/
theorem ffits_r (n0 fb : Nat) (cv : Value) (st : FS) (W : World) (hf : Fd n0 W fb cv st) (hl : ∀ s ∈ st.arrays, s.size ≤ 32) (q : Bool) (hq : st.fits = q) :
    Calls Tryd.prog 22 #[.pointer (some ⟨fb, 0, none⟩)] W fun e w' => e = .returned (.bool q) ∧ Below W.heap.size W w' := by
  have hbl : Below W.heap.size W (W.alloc (.cells #[.pointer (some ⟨fb, 0, none⟩)] 76)) := (Below.refl _ _).alloc (Nat.le_refl _) _
  have hf1 := hf.stay hbl
  have HF := Lib.hid hf1
  have HX : Hid ((W.alloc (.cells #[.pointer (some ⟨fb, 0, none⟩)] 76)).cell? ⟨W.heap.size, 0, none⟩ = some (.pointer (some ⟨fb, 0, none⟩))) := cell_of_heap (heap_alloc_new _ _) 0
  have HL := Lib.hid hl
  have HBL := Lib.hid hbl
  obtain ⟨hg, l0, m0, l1, m1, l2, m2, hb, ⟨n1, n2, n3⟩, _⟩ := hf1
  have HT := Lib.hid (own_tsl n2.row)
  obtain ⟨la, lc, rfl⟩ := own_shape n2.row
  have c2 : (W.alloc (.cells #[.pointer (some ⟨fb, 0, none⟩)] 76)).cell? ⟨fb, 2, none⟩ = some (.slice la st.arrays.length lc) := cell_of_heap hb 2
  have c6 : (W.alloc (.cells #[.pointer (some ⟨fb, 0, none⟩)] 76)).cell? ⟨fb, 6, none⟩ = some (.bool st.wrong) := cell_of_heap hb 6
  unfold FS.fits at hq
  obtain ⟨t, ht⟩ : ∃ t, st.arrays.any (strangeB st) = t := ⟨_, rfl⟩
  rw [ht] at hq
  have HQ := Lib.hid ht
  generalize st.wrong = b0 at hq c6
  have hcv : fitsV W.heap.size = .func (.func 39) #[] #[.pointer (some ⟨W.heap.size, 0, none⟩)] := rfl
  have HCV := Lib.hid hcv
  clear hb n1 n2 n3 hg hf hl hbl ht hcv
  subst hq
  cases b0 <;> cases t
  all_goals
    go_enter Tryd.func22, Tryd.ntmps22
    go_wp2_with (go_at_call 40; rw [← HCV.out]; refine (fcont_r n0 _ fb cv st _ HX.out HF.out la _ lc st.arrays HL.out _ HQ.out HT.out).mono ?_; rintro e w' ⟨rfl, rfl⟩)
    go_ret
    exact ⟨rfl, HBL.out⟩
end Go.Proofs.YthjjcmmonjajhaaDoor
