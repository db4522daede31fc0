/- verify.in, and reaches: a place is noted and sent. -/
import Derived.Test.YthfgagljplabpaaDoorVerifyMap
import Derived.Test.YthfgagljplabpaaDoorVerifyWpN
namespace Go.Proofs.YthfgagljplabpaaDoor.V
open Go.RowKit Go.Sort Go.Maps Go.Conc
set_option linter.unusedVariables false

set_option maxHeartbeats 1000000 in
set_option maxRecDepth 1000000 in
theorem in_r (n a b : Int) (r : Bool) (hr : inB n a b = r) (w : World) :
    Calls Tryd.prog 15 #[.int .i64 n, .int .i64 a, .int .i64 b] w fun e w' => e = .returned (.bool r) ∧ w = w' := by
  subst hr
  unfold inB
  by_cases h1 : a ≤ n
  · rw [decide_eq_true h1]
    by_cases h2 : n < b
    · rw [decide_eq_true h2]
      go_enter Tryd.func15, Tryd.ntmps15
      go_wp2
      go_ret
      exact ⟨rfl, rfl⟩
    · have h3 : decide (n < b) = false := decide_eq_false h2
      rw [h3]
      go_enter Tryd.func15, Tryd.ntmps15
      go_wp2
      go_ret
      exact ⟨rfl, rfl⟩
  · have h3 : decide (a ≤ n) = false := decide_eq_false h1
    rw [h3]
    go_enter Tryd.func15, Tryd.ntmps15
    go_wp2
    go_ret
    exact ⟨rfl, rfl⟩

theorem cell_of_heap {w : World} {b : Nat} {cs : Array Value} {t : TypeId} {z : Nat × Nat} (h : w.heap[b]? = some (.cells cs t z)) (j : Nat) : w.cell? ⟨b, j, none⟩ = cs[j]? := by simp [World.cell?, h]
/-- What is known of a looker in the midst of its work: its block B, the map's block bm, the channel's bc. -/
structure Looks (w0 w : World) (B bm bc : Nat) (fs : List VF) (f : VF) (fv lv : Value) (st : VS) : Prop where
  tab : Tab w0
  rfs : VSl w0 fv fs
  rl : ISl w0 lv f.l
  below : Below w0.heap.size w0 w
  geB : w0.heap.size ≤ B
  gem : w0.heap.size ≤ bm
  gec : w0.heap.size ≤ bc
  box : w.heap[B]? = some (.cells #[fv, .string f.name, .int .i64 f.params, .int .i64 f.vars, .int .i64 f.arrays, lv, .map (some bm), .chan (some bc)] 70 (0, 0))
  map : ∃ n, Deps w bm n st.dep ∧ n + unseen st.dep f.l.length ≤ f.l.length
  chan : ∃ s r, w.heap[bc]? = some (.chan f.l.length (st.queue.map fun (k : Nat) => Value.int .i64 k).toArray false s r false)
  ok : st.ok f.l.length
theorem Looks.cells {w0 w : World} {B bm bc : Nat} {fs : List VF} {f : VF} {fv lv : Value} {st : VS} (h : Looks w0 w B bm bc fs f fv lv st) :
    w.cell? ⟨B, 0, none⟩ = some fv ∧ w.cell? ⟨B, 1, none⟩ = some (.string f.name) ∧ w.cell? ⟨B, 2, none⟩ = some (.int .i64 f.params) ∧ w.cell? ⟨B, 3, none⟩ = some (.int .i64 f.vars) ∧ w.cell? ⟨B, 4, none⟩ = some (.int .i64 f.arrays) ∧ w.cell? ⟨B, 5, none⟩ = some lv ∧ w.cell? ⟨B, 6, none⟩ = some (.map (some bm)) ∧ w.cell? ⟨B, 7, none⟩ = some (.chan (some bc)) :=
  ⟨cell_of_heap h.box 0, cell_of_heap h.box 1, cell_of_heap h.box 2, cell_of_heap h.box 3, cell_of_heap h.box 4, cell_of_heap h.box 5, cell_of_heap h.box 6, cell_of_heap h.box 7⟩
/-- Nothing of it is touched: it goes on. -/
theorem Looks.stay {w0 w w' : World} {B bm bc : Nat} {fs : List VF} {f : VF} {fv lv : Value} {st : VS} (h : Looks w0 w B bm bc fs f fv lv st) (hb : Below w.heap.size w w') : Looks w0 w' B bm bc fs f fv lv st where
  tab := h.tab
  rfs := h.rfs
  rl := h.rl
  below := h.below.trans (hb.mono h.below.size)
  geB := h.geB
  gem := h.gem
  gec := h.gec
  box := (hb.block B (lt_of_heap h.box)).trans h.box
  map := by
    obtain ⟨n, ⟨D, ⟨es, cl, hk, r⟩, hD⟩, hn⟩ := h.map
    exact ⟨n, ⟨D, ⟨es, cl, (hb.block bm (lt_of_heap hk)).trans hk, r⟩, hD⟩, hn⟩
  chan := by
    obtain ⟨s, r, hk⟩ := h.chan
    exact ⟨s, r, (hb.block bc (lt_of_heap hk)).trans hk⟩
  ok := h.ok

set_option maxHeartbeats 1000000 in
set_option maxRecDepth 1000000 in
theorem reaches_out (w0 w : World) (B bm bc : Nat) (fs : List VF) (f : VF) (fv lv : Value) (st : VS) (h : Looks w0 w B bm bc fs f fv lv st) (p d : Int) (hin : inB p 0 f.l.length = false) :
    Calls Tryd.prog 22 #[.pointer (some ⟨B, 0, none⟩), .int .i64 p, .int .i64 d] w fun e w' => e = .returned (.bool false) ∧ w = w' := by
  obtain ⟨c0, c1, c2, c3, c4, c5, c6, c7⟩ := h.cells
  obtain ⟨a, cap, rfl⟩ := h.rl.shape
  have HI := Lib.hid hin
  clear hin h c0 c1 c2 c3 c4 c6 c7
  go_enter Tryd.func22, Tryd.ntmps22
  go_wp2_with (go_at_call 15; refine (in_r _ _ _ _ HI.out _).mono ?_; rintro e w' ⟨rfl, rfl⟩)
  go_ret
  exact ⟨rfl, rfl⟩

set_option maxHeartbeats 1000000 in
set_option maxRecDepth 1000000 in
theorem reaches_seen (w0 w : World) (B bm bc : Nat) (fs : List VF) (f : VF) (fv lv : Value) (st : VS) (h : Looks w0 w B bm bc fs f fv lv st) (k : Nat) (d c : Int) (hk : k < f.l.length) (hc : st.dep k = some c) (b : Bool) (hb : (c == d) = b) :
    Calls Tryd.prog 22 #[.pointer (some ⟨B, 0, none⟩), .int .i64 k, .int .i64 d] w fun e w' => e = .returned (.bool b) ∧ w = w' := by
  obtain ⟨c0, c1, c2, c3, c4, c5, c6, c7⟩ := h.cells
  obtain ⟨a, cap, rfl⟩ := h.rl.shape
  obtain ⟨n, ⟨D, hown, hD⟩, hn⟩ := h.map
  have hl := h.rl.small
  have hhas := (hD.2 k).1
  have HAT := Lib.hid (hD.2 k).2
  rw [hc] at hhas HAT
  replace hhas : Maps.has D (.int .i64 (k : Int)) = true := hhas
  have HI : Hid (inB (k : Int) 0 f.l.length = true) := by show _ = _; unfold inB; simp; omega
  have HKEY := Lib.hid (keyOf_int_mk Tryd.underlying3 (WalkArith.wf_i64 (by omega) : (Lit.int .i64 (k : Int)).wf = true))
  have HO := Lib.hid hown
  clear h c0 c1 c2 c3 c4 c7 hown hD hn hc
  go_enter Tryd.func22, Tryd.ntmps22
  go_wp2_with (first
    | (go_at_call 15; refine (in_r _ _ _ _ HI.out _).mono ?_; rintro e w' ⟨rfl, rfl⟩)
    | (at_lookup; refine wpList_lookup_own_ok_int _ rfl _ _ 67 rfl 3 3 .i64 lawInt Tryd.underlying67 Tryd.underlying3 (zeroInt _) bm n D rfl HO.out _ _ rfl HKEY.out ?_; intro c' hat hwc; obtain rfl : c' = c := by have := hat.symm.trans HAT.out; simpa [lit64] using this))
  go_ret
  exact ⟨rfl, rfl⟩

set_option maxHeartbeats 2000000 in
set_option maxRecDepth 1000000 in
theorem reaches_new (w0 w : World) (B bm bc : Nat) (fs : List VF) (f : VF) (fv lv : Value) (st : VS) (h : Looks w0 w B bm bc fs f fv lv st) (k : Nat) (d : Int) (hwd : (Lit.int .i64 d).wf = true) (hk : k < f.l.length) (hc : st.dep k = none) :
    Calls Tryd.prog 22 #[.pointer (some ⟨B, 0, none⟩), .int .i64 k, .int .i64 d] w fun e w' => e = .returned (.bool true) ∧ Looks w0 w' B bm bc fs f fv lv ⟨fun j => if j = k then some d else st.dep j, st.queue ++ [k]⟩ := by
  have HL := Lib.hid h
  obtain ⟨c0, c1, c2, c3, c4, c5, c6, c7⟩ := h.cells
  obtain ⟨a, cap, rfl⟩ := h.rl.shape
  obtain ⟨n, ⟨D, hown, hD⟩, hn⟩ := h.map
  obtain ⟨s, r, hch⟩ := h.chan
  have hl := h.rl.small
  have hu := unseen_set st.dep f.l.length k d hk hc
  have hne1 : bc ≠ bm := by
    rintro rfl
    obtain ⟨es, cl, hb, _⟩ := hown
    rw [hch] at hb; cases hb
  have hne2 : B ≠ bm := by
    rintro rfl
    obtain ⟨es, cl, hb, _⟩ := hown
    rw [h.box] at hb; cases hb
  have hne3 : bc ≠ B := by
    rintro rfl
    have hb := h.box
    rw [hch] at hb; cases hb
  have hhas := (hD.2 k).1
  have HAT := Lib.hid (hD.2 k).2
  rw [hc] at hhas HAT
  replace hhas : Maps.has D (.int .i64 (k : Int)) = false := hhas
  have HI : Hid (inB (k : Int) 0 f.l.length = true) := by show _ = _; unfold inB; simp; omega
  have HKEY := Lib.hid (keyOf_int_mk Tryd.underlying3 (WalkArith.wf_i64 (by omega) : (Lit.int .i64 (k : Int)).wf = true))
  have HO := Lib.hid hown
  have HD := Lib.hid hD
  have HN := Lib.hid hn
  have HC := Lib.hid hc
  have HU := Lib.hid hu
  have HCH := Lib.hid hch
  have HWD := Lib.hid hwd
  have HNE := Lib.hid (And.intro hne1 (And.intro hne2 hne3))
  have hnm : n < maxLen := by unfold maxLen; omega
  clear h c0 c1 c2 c3 c4 hown hD hn hc hu hch hwd hne1 hne2 hne3
  refine calls_of_wpN Tryd.func22 rfl ?_
  simp only [Tryd.ntmps22, List.size_toArray, List.length_cons, List.length_nil, Nat.reduceAdd, Nat.reduceSub, Array.replicate_succ, Array.replicate_zero, List.push_toArray, List.append_toArray, List.nil_append, List.cons_append]
  refine wpN_seq_k (fun K hK => ?_)
  go_wp2
  refine wpN_seq_k (fun K hK => ?_)
  go_wp2_with (go_at_call 15; refine (in_r _ _ _ _ HI.out _).mono ?_; rintro e w' ⟨rfl, rfl⟩)
  refine wpN_seq_k (fun K hK => ?_)
  go_wp2_with (at_lookup; refine wpList_lookup_own_ok_int _ rfl _ _ 67 rfl 3 3 .i64 lawInt Tryd.underlying67 Tryd.underlying3 (zeroInt _) bm n D rfl HO.out _ _ rfl HKEY.out ?_; intro c' hat hwc; obtain rfl : c' = 0 := by have := hat.symm.trans HAT.out; simpa [lit64] using this)
  refine wpN_seq_k (fun K hK => ?_)
  go_wp2
  refine wpN_seq_k (fun K hK => ?_)
  go_wp2_with (at_mapUpdate; refine wpList_mapUpdate_own _ rfl _ _ _ 67 rfl 3 3 lawInt Tryd.underlying67 _ bm n D rfl HO.out hnm _ _ _ rfl rfl HKEY.out _ [] (plainElem_int Tryd.underlying3 HWD.out) ?_; intro w1 hown1 hgrow1)
  have hblk : ∀ b, b ≠ bm → b < w.heap.size → w1.heap[b]? = w.heap[b]? := fun b hb hlt => hgrow1.block b hlt (by simpa using hb)
  have hch1 := (hblk bc HNE.out.1 (lt_of_heap HCH.out)).trans HCH.out
  have hbox1 := (hblk B HNE.out.2.1 (lt_of_heap HL.out.box)).trans HL.out.box
  have e7 := cell_of_heap hbox1 7
  simp only [List.getElem?_toArray, List.getElem?_cons_succ, List.getElem?_cons_zero] at e7
  refine wpN_seq ?_
  refine wpN_region ?_
  simp only [List.size_toArray, List.length_cons, List.length_nil, Nat.reduceAdd, List.range, List.range.loop]
  go_frame
  refine regN_value (v := .pointer (some ⟨B, 0, none⟩)) (w' := w1) rfl rfl (by simp [execOp, go_sem]) ?_
  refine regN_value (v := .pointer (some ⟨B, 0, none⟩)) (w' := w1) rfl rfl (by simp [execOp, go_sem]) ?_
  refine regN_value (v := .pointer (some ⟨B, 7, none⟩)) (w' := w1) rfl rfl (by simp [execOp, go_sem]) ?_
  refine regN_value (v := .chan (some bc)) (w' := w1) rfl rfl (by simp [execOp, go_sem, e7]) ?_
  refine regN_value (v := .int .i64 k) (w' := w1) rfl rfl (by simp [execOp, go_sem]) ?_
  refine regN_send (c := bc) (v := .int .i64 k) rfl rfl (by simp [execOp, go_sem]; rfl) hch1 (by simp; have := HL.out.ok.1; have := HU.out; omega) ?_
  refine regN_nil ?_
  show WpN _ _ _ _ _
  refine wpN_of_wp ?_
  go_wp2
  go_ret
  refine ⟨rfl, ?_⟩
  have hset : ∀ b, b ≠ bc → ∀ (q : Array Value) (s r : Nat), (w1.setChan bc f.l.length q false s r false).heap[b]? = w1.heap[b]? := fun b hb q s r => by
    simp only [World.setChan]; exact Array.getElem?_setIfInBounds_ne (fun e => hb e.symm)
  have hbc1 : bc < w1.heap.size := lt_of_heap hch1
  have hB1 : Below w0.heap.size w0 w1 := HL.out.below.grown hgrow1 HL.out.below.size (fun j hj => by cases hj; exact HL.out.gem)
  exact {
    tab := HL.out.tab
    rfs := HL.out.rfs
    rl := HL.out.rl
    below := below_setChan hB1 HL.out.gec _ _ _ _ _ _
    geB := HL.out.geB
    gem := HL.out.gem
    gec := HL.out.gec
    box := by rw [hset B (fun e => HNE.out.2.2 e.symm)]; exact hbox1
    map := ⟨n + 1, ⟨_, by
      obtain ⟨es, cl, hb, r⟩ := hown1
      exact ⟨es, cl, by rw [hset bm (fun e => HNE.out.1 e.symm)]; exact hb, r⟩, HD.out.put k d⟩, by have := HN.out; have := HU.out; dsimp only; omega⟩
    chan := ⟨s + 1, r, by rw [heap_setChan _ _ _ _ _ _ _ _ hbc1]; simp⟩
    ok := by
      have hr : st.reach f.l.length k d = some ⟨fun j => if j = k then some d else st.dep j, st.queue ++ [k]⟩ := by
        unfold VS.reach; rw [if_pos HI.out, Int.toNat_natCast, HC.out]
      exact (VS.reach_ok hr HL.out.ok).1 }

/-- A place is reached: false, where it may not be. -/
theorem reaches_no (w0 w : World) (B bm bc : Nat) (fs : List VF) (f : VF) (fv lv : Value) (st : VS) (h : Looks w0 w B bm bc fs f fv lv st) (p d : Int) (hr : st.reach f.l.length p d = none) :
    Calls Tryd.prog 22 #[.pointer (some ⟨B, 0, none⟩), .int .i64 p, .int .i64 d] w fun e w' => e = .returned (.bool false) ∧ w = w' := by
  unfold VS.reach at hr
  split at hr
  · rename_i hin
    have hin' := hin
    unfold inB at hin'
    simp only [Bool.and_eq_true, decide_eq_true_eq] at hin'
    obtain ⟨k, rfl⟩ : ∃ k : Nat, p = k := ⟨p.toNat, by omega⟩
    rw [Int.toNat_natCast] at hr
    split at hr
    · rename_i e he
      split at hr
      · cases hr
      · rename_i hne
        exact reaches_seen w0 w B bm bc fs f fv lv st h k d e (by omega) he false (by simpa using hne)
    · cases hr
  · rename_i hin
    exact reaches_out w0 w B bm bc fs f fv lv st h p d (by simpa using hin)
theorem reaches_yes (w0 w : World) (B bm bc : Nat) (fs : List VF) (f : VF) (fv lv : Value) (st st' : VS) (h : Looks w0 w B bm bc fs f fv lv st) (p d : Int) (hwd : (Lit.int .i64 d).wf = true) (hr : st.reach f.l.length p d = some st') :
    Calls Tryd.prog 22 #[.pointer (some ⟨B, 0, none⟩), .int .i64 p, .int .i64 d] w fun e w' => e = .returned (.bool true) ∧ Looks w0 w' B bm bc fs f fv lv st' := by
  unfold VS.reach at hr
  split at hr
  · rename_i hin
    have hin' := hin
    unfold inB at hin'
    simp only [Bool.and_eq_true, decide_eq_true_eq] at hin'
    obtain ⟨k, rfl⟩ : ∃ k : Nat, p = k := ⟨p.toNat, by omega⟩
    rw [Int.toNat_natCast] at hr
    split at hr
    · rename_i e he
      split at hr
      · rename_i heq
        cases hr
        exact (reaches_seen w0 w B bm bc fs f fv lv st h k d e (by omega) he true (by simpa using heq)).mono fun _ _ ⟨h1, h2⟩ => ⟨h1, h2 ▸ h⟩
      · cases hr
    · rename_i hn
      cases hr
      exact reaches_new w0 w B bm bc fs f fv lv st h k d hwd (by omega) hn
  · cases hr
end Go.Proofs.YthfgagljplabpaaDoor.V
