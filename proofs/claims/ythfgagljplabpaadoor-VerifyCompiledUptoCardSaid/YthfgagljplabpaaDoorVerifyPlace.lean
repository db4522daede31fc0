/- verify's place: is an instruction right where it stands? -/
import Derived.Test.YthfgagljplabpaaDoorVerifyOper
namespace Go.Proofs.YthfgagljplabpaaDoor.V
open Go.RowKit Go.Sort Go.Maps Go.Conc
set_option linter.unusedVariables false

theorem VSl.at_ {w : World} {a : Option Addr} {n cap : Nat} {l : List VF} (h : VSl w (.slice a n cap) l) : ∃ b off, (0 < l.length → a = some ⟨b, off, none⟩) ∧ n = l.length ∧ n ≤ cap ∧ cap ≤ maxLen ∧ ∀ i, i < l.length → w.cell? ⟨b, off + i * 5 + 1, .none⟩ = .some (.int .i64 (l.getD i default).params) := by
  cases h with
  | mk a b off cap l f ha hc hm hcell h1 => exact ⟨b, off, ha, rfl, hc, hm, fun i hi => (hcell i hi).2.1⟩
theorem ISl.at_ {w : World} {a : Option Addr} {n cap : Nat} {l : List VI} (h : ISl w (.slice a n cap) l) : ∃ b off, (0 < l.length → a = some ⟨b, off, none⟩) ∧ n = l.length ∧ n ≤ cap ∧ cap ≤ maxLen ∧ ∀ i, i < l.length → w.cell? ⟨b, off + i * 3, .none⟩ = .some (.int .i64 (l.getD i default).op) ∧ w.cell? ⟨b, off + i * 3 + 1, .none⟩ = .some (.int .i64 (l.getD i default).a) ∧ w.cell? ⟨b, off + i * 3 + 2, .none⟩ = .some (.int .i64 (l.getD i default).n) := by
  cases h with
  | mk a b off cap l ha hc hm hs hcell => exact ⟨b, off, ha, rfl, hc, hm, hcell⟩
theorem lv_range (n : Nat) : 0 ≤ lv n ∧ lv n ≤ 1 := by
  by_cases h : n < 26
  · have key : ∀ i : Fin 26, 0 ≤ lv i.val ∧ lv i.val ≤ 1 := by decide +kernel
    exact key ⟨n, h⟩
  · have : sortRow n = ([], 0, 0, 0, 0) := by unfold sortRow; rw [List.getD_eq_getElem?_getD, List.getElem?_eq_none (by show 26 ≤ n; omega)]; rfl
    unfold lv; rw [this]; decide

theorem hb_set {w0 w : World} (h : Hid (Below w0.heap.size w0 w)) {p : Addr} (hp : w0.heap.size ≤ p.block) (v : Value) : Hid (Below w0.heap.size w0 (w.setCell p v)) := Below.setCell h.out hp v
/-- What a place's look ends with. -/
def Placed (w0 : World) (B bm bc : Nat) (fs : List VF) (f : VF) (fv lv : Value) (r : Option VS) (e : Ending) (w' : World) : Prop :=
  match r with
  | none => e = .returned (.bool false) ∧ Below w0.heap.size w0 w'
  | some st' => e = .returned (.bool true) ∧ Looks w0 w' B bm bc fs f fv lv st'

theorem below_of_alloc {w w' : World} {o : Obj} (hb : Below (w.alloc o).heap.size (w.alloc o) w') : Below w.heap.size w w' := ((Below.refl _ _).alloc (Nat.le_refl _) _).trans (hb.mono (by simp))
theorem looks_at {w0 w w' : World} {B bm bc : Nat} {fs : List VF} {f : VF} {fv lv : Value} {st : VS} {o : Obj} (h : Looks w0 w B bm bc fs f fv lv st) (hb : Below (w.alloc o).heap.size (w.alloc o) w') : Looks w0 w' B bm bc fs f fv lv st := h.stay (below_of_alloc hb)
theorem tab_at {w0 w w' : World} {B bm bc : Nat} {fs : List VF} {f : VF} {fv lv : Value} {st : VS} {o : Obj} (h : Looks w0 w B bm bc fs f fv lv st) (hb : Below (w.alloc o).heap.size (w.alloc o) w') : Tab w' := h.tab.below (looks_at h hb).below
theorem step_at {w w1 w2 : World} (h : Below w.heap.size w w1) (h' : Below w1.heap.size w1 w2) : Hid (Below w.heap.size w w2) := h.trans (h'.mono h.size)
theorem drewN_at {w w1 : World} (h : Below w.heap.size w w1) (k : Nat) : Hid (Below w.heap.size w (w1.drewN k)) := below_drewN h k
theorem new_at {w w' : World} {cs : Array Value} {t : TypeId} {z : Nat × Nat} (hb : Below (w.alloc (.cells cs t z)).heap.size (w.alloc (.cells cs t z)) w') (j : Nat) : w'.cell? ⟨w.heap.size, j, none⟩ = cs[j]? := by
  have h1 : (w.alloc (.cells cs t z)).heap[w.heap.size]? = some (.cells cs t z) := heap_alloc_new w _
  rw [hb.cell (p := ⟨w.heap.size, j, none⟩) (by simp)]
  exact cell_of_heap h1 j
theorem new0 {w w' : World} {a b c : Value} {t : TypeId} (hb : Below (w.alloc (.cells #[a, b, c] t)).heap.size (w.alloc (.cells #[a, b, c] t)) w') : w'.cell? ⟨w.heap.size, 0, none⟩ = some a := new_at hb 0
theorem new1 {w w' : World} {a b c : Value} {t : TypeId} (hb : Below (w.alloc (.cells #[a, b, c] t)).heap.size (w.alloc (.cells #[a, b, c] t)) w') : w'.cell? ⟨w.heap.size, 1, none⟩ = some b := new_at hb 1
theorem own_at {w w' : World} {o : Obj} {bm n : Nat} {D : DataW Unit} (hown : w.ownsMap Tryd.prog 3 (plainElem Tryd.prog 3) bm n D) (hb : Below (w.alloc o).heap.size (w.alloc o) w') : w'.ownsMap Tryd.prog 3 (plainElem Tryd.prog 3) bm n D := by
  obtain ⟨es, cl, hk, r⟩ := hown
  exact ⟨es, cl, ((below_of_alloc hb).block bm (lt_of_heap hk)).trans hk, r⟩

set_option maxHeartbeats 4000000 in
set_option maxRecDepth 1000000 in
theorem place_no (w0 w : World) (B bm bc : Nat) (fs : List VF) (f : VF) (fv lv : Value) (st : VS) (h : Looks w0 w B bm bc fs f fv lv st) (k : Nat) (hk : k < f.l.length) (hop : operandsB fs.length f (f.l.getD k default) = false) :
    Calls Tryd.prog 23 #[.pointer (some ⟨B, 0, none⟩), .int .i64 k] w fun e w' => e = .returned (.bool false) ∧ Below w.heap.size w w' := by
  have HL := Lib.hid h
  obtain ⟨c0, c1, c2, c3, c4, c5, c6, c7⟩ := h.cells
  obtain ⟨a, cap, rfl⟩ := h.rl.shape
  obtain ⟨bl, ol, ha, _, hcap, hm, hcl⟩ := h.rl.at_
  obtain rfl := ha (by omega)
  obtain ⟨e0, e1, e2⟩ := hcl k hk
  replace e0 := (h.below.cell (p := ⟨bl, ol + k * 3, none⟩) (lt_of_cell e0)).trans e0
  replace e1 := (h.below.cell (p := ⟨bl, ol + k * 3 + 1, none⟩) (lt_of_cell e1)).trans e1
  replace e2 := (h.below.cell (p := ⟨bl, ol + k * 3 + 2, none⟩) (lt_of_cell e2)).trans e2
  have hm' : cap ≤ 9223372036854775807 := hm
  have hlt := lt_of_heap h.box
  generalize f.l.getD k default = i at e0 e1 e2 hop
  obtain ⟨op, x, n⟩ := i
  dsimp only at e0 e1 e2
  have HOP := Lib.hid hop
  have HB := hb_start w
  clear h c0 c1 c2 c3 c4 c6 c7 hcl hop hm
  go_enter Tryd.func23, Tryd.ntmps23
  go_wp2_with (go_at_call 38; refine (operands_r w0 _ B bm bc fs f fv _ st (HL.out.stay ((Below.refl _ _).alloc (Nat.le_refl _) _)) ⟨op, x, n⟩ false HOP.out).mono ?_; rintro e w1 ⟨rfl, hb⟩; have HB1 := Lib.hid hb; clear hb)
  go_ret
  exact ⟨rfl, below_of_alloc HB1.out⟩

set_option maxHeartbeats 8000000 in
set_option maxRecDepth 1000000 in
theorem place_r (w0 w : World) (B bm bc : Nat) (fs : List VF) (f : VF) (fv lv : Value) (st : VS) (h : Looks w0 w B bm bc fs f fv lv st) (k : Nat) (hk : k < f.l.length) (dk : Int) (hdk : st.dep k = some dk) (r : Option VS) (hr : placeB fs f st k = r) :
    Calls Tryd.prog 23 #[.pointer (some ⟨B, 0, none⟩), .int .i64 k] w fun e w' => Placed w0 B bm bc fs f fv lv r e w' := by
  rcases hop : operandsB fs.length f (f.l.getD k default) with _ | _
  · unfold placeB at hr
    dsimp only at hr
    rw [hop] at hr
    simp only [Bool.false_eq_true, if_false] at hr
    subst hr
    exact (place_no w0 w B bm bc fs f fv lv st h k hk hop).mono fun _ _ ⟨h1, h2⟩ => ⟨h1, h.below.trans (h2.mono h.below.size)⟩
  have HL := Lib.hid h
  obtain ⟨c0, c1, c2, c3, c4, c5, c6, c7⟩ := h.cells
  obtain ⟨a, cap, rfl⟩ := h.rl.shape
  obtain ⟨af, capf, rfl⟩ := h.rfs.shape
  obtain ⟨bl, ol, ha, _, hcap, hm, hcl⟩ := h.rl.at_
  have hl := h.rl.small
  obtain rfl := ha (by omega)
  obtain ⟨e0, e1, e2⟩ := hcl k hk
  replace e0 := (h.below.cell (p := ⟨bl, ol + k * 3, none⟩) (lt_of_cell e0)).trans e0
  replace e1 := (h.below.cell (p := ⟨bl, ol + k * 3 + 1, none⟩) (lt_of_cell e1)).trans e1
  replace e2 := (h.below.cell (p := ⟨bl, ol + k * 3 + 2, none⟩) (lt_of_cell e2)).trans e2
  have hm' : cap ≤ 9223372036854775807 := hm
  have hlt := lt_of_heap h.box
  obtain ⟨nm, ⟨D, hown, hD⟩, hn⟩ := h.map
  have HAT := Lib.hid (hD.2 k).2
  rw [hdk] at HAT
  have HKEY := Lib.hid (keyOf_int_mk Tryd.underlying3 (WalkArith.wf_i64 (by omega) : (Lit.int .i64 (k : Int)).wf = true))
  have HO := Lib.hid hown
  unfold placeB at hr
  dsimp only at hr
  rw [if_pos hop, hdk] at hr
  generalize f.l.getD k default = i at e0 e1 e2 hop hr
  obtain ⟨op, x, n⟩ := i
  dsimp only at e0 e1 e2 hr
  obtain ⟨m, hix⟩ : ∃ m, ix op = m := ⟨_, rfl⟩
  obtain ⟨z, hz⟩ : ∃ z, restV fs ⟨op, x, n⟩ ((some dk).getD 0) = z := ⟨_, rfl⟩
  rw [hz, hix] at hr
  obtain ⟨y, hy⟩ : ∃ y, wrap64 (z + lv m) = y := ⟨_, rfl⟩
  rw [hy] at hr
  have HWY : Hid ((Lit.int .i64 y).wf = true) := by show _ = _; rw [← hy]; exact wrap64_wf _
  simp only [Option.getD_some] at hz
  have HIX := Lib.hid hix
  have HOP := Lib.hid hop
  clear h c0 c1 c2 c3 c4 c6 c7 hcl hop hm hown hD hn hdk hix
  by_cases h17 : op = 17
  · subst h17
    obtain ⟨j, rfl, hj⟩ : ∃ j : Nat, x = j ∧ j < fs.length := by
      have := HOP.out; unfold operandsB inB at this; simp at this; exact ⟨x.toNat, by omega, by omega⟩
    obtain ⟨bf, of, haf, _, hcf, hmf, hpf⟩ := HL.out.rfs.at_
    obtain rfl := haf (by omega)
    have e3 := hpf j hj
    have hzf : bf < w0.heap.size := lt_of_cell e3
    replace e3 := (HL.out.below.cell (p := ⟨bf, of + j * 5 + 1, none⟩) hzf).trans e3
    have hzf' : bf < w.heap.size := Nat.lt_of_lt_of_le hzf HL.out.below.size
    have hmf' : capf ≤ 9223372036854775807 := hmf
    clear hpf hmf haf
    have htk : takesV fs ⟨17, (j : Int), n⟩ = (fs.getD j default).params := by simp [takesV]
    simp only [restV, htk] at hz
    clear htk
    generalize (fs.getD j default).params = pv at e3 hz
    by_cases hz0 : z < 0
    · rw [if_pos hz0] at hr
      subst hr
      go_enter Tryd.func23, Tryd.ntmps23
      go_wp2_with (first | (go_at_call 38; refine (operands_r w0 _ B bm bc fs f _ _ st (HL.out.stay ((Below.refl _ _).alloc (Nat.le_refl _) _)) ⟨17, (j : Int), n⟩ true HOP.out).mono ?_; rintro e w1 ⟨rfl, hb⟩; have HB1 := Lib.hid hb; have k0 := new0 hb; have k1 := new1 hb; have c0' := (looks_at HL.out hb).cells.1; clear hb) | (go_at_call 9; refine (takes_r _ m HIX.out _ (tab_at HL.out HB1.out)).mono ?_; rintro e w2 ⟨rfl, hb⟩; have HB2 := step_at HB1.out hb; clear k0 k1 c0'; have k0 := new0 HB2.out; have k1 := new1 HB2.out; have c0' := (looks_at HL.out HB2.out).cells.1; have c6' := (looks_at HL.out HB2.out).cells.2.2.2.2.2.2.1; clear hb; have e3' := ((below_of_alloc HB2.out).cell (p := ⟨bf, of + j * 5 + 1, none⟩) hzf').trans e3))
      go_quiet (fail)
      have HBX := drewN_at HB2.out nq
      go_wp2_with (first | (at_lookup; refine wpList_lookup_own_int _ rfl _ _ 67 rfl 3 3 .i64 lawInt Tryd.underlying67 Tryd.underlying3 (zeroInt _) bm nm D rfl (own_at HO.out HBX.out) _ _ rfl HKEY.out ?_; intro c' hat hwc; obtain rfl : c' = dk := by have := hat.symm.trans HAT.out; simpa [lit64] using this) | (go_at_call 39; refine (leaves_r _ m HIX.out _ (tab_at HL.out HBX.out)).mono ?_; rintro e w3 ⟨rfl, hb⟩; have HB4 := step_at HBX.out hb; clear k0 k1; have k0 := new0 HB4.out; have k1 := new1 HB4.out; clear hb))
      go_ret
      exact (show Placed w0 B bm bc fs f _ _ none _ _ from ⟨rfl, (looks_at HL.out HBX.out).below⟩)
    · rw [if_neg hz0] at hr
      rw [if_neg (by decide), if_neg (by decide), if_neg (by decide)] at hr
      cases r with
      | none =>
        have HR := Lib.hid hr
        clear hr
        go_enter Tryd.func23, Tryd.ntmps23
        go_wp2_with (first | (go_at_call 38; refine (operands_r w0 _ B bm bc fs f _ _ st (HL.out.stay ((Below.refl _ _).alloc (Nat.le_refl _) _)) ⟨17, (j : Int), n⟩ true HOP.out).mono ?_; rintro e w1 ⟨rfl, hb⟩; have HB1 := Lib.hid hb; have k0 := new0 hb; have k1 := new1 hb; have c0' := (looks_at HL.out hb).cells.1; clear hb) | (go_at_call 9; refine (takes_r _ m HIX.out _ (tab_at HL.out HB1.out)).mono ?_; rintro e w2 ⟨rfl, hb⟩; have HB2 := step_at HB1.out hb; clear k0 k1 c0'; have k0 := new0 HB2.out; have k1 := new1 HB2.out; have c0' := (looks_at HL.out HB2.out).cells.1; have c6' := (looks_at HL.out HB2.out).cells.2.2.2.2.2.2.1; clear hb; have e3' := ((below_of_alloc HB2.out).cell (p := ⟨bf, of + j * 5 + 1, none⟩) hzf').trans e3))
        go_quiet (fail)
        have HBX := drewN_at HB2.out nq
        go_wp2_with (first | (at_lookup; refine wpList_lookup_own_int _ rfl _ _ 67 rfl 3 3 .i64 lawInt Tryd.underlying67 Tryd.underlying3 (zeroInt _) bm nm D rfl (own_at HO.out HBX.out) _ _ rfl HKEY.out ?_; intro c' hat hwc; obtain rfl : c' = dk := by have := hat.symm.trans HAT.out; simpa [lit64] using this) | (go_at_call 39; refine (leaves_r _ m HIX.out _ (tab_at HL.out HBX.out)).mono ?_; rintro e w3 ⟨rfl, hb⟩; have HB4 := step_at HBX.out hb; clear k0 k1; have k0 := new0 HB4.out; have k1 := new1 HB4.out; clear hb) | (go_at_call 22; refine (reaches_no w0 _ B bm bc fs f _ _ st (looks_at HL.out HB4.out) _ _ HR.out).mono ?_; rintro e w4 ⟨rfl, rfl⟩))
        go_ret
        exact (show Placed w0 B bm bc fs f _ _ none _ _ from ⟨rfl, (looks_at HL.out HB4.out).below⟩)
      | some st1 =>
        have HR := Lib.hid hr
        clear hr
        go_enter Tryd.func23, Tryd.ntmps23
        go_wp2_with (first | (go_at_call 38; refine (operands_r w0 _ B bm bc fs f _ _ st (HL.out.stay ((Below.refl _ _).alloc (Nat.le_refl _) _)) ⟨17, (j : Int), n⟩ true HOP.out).mono ?_; rintro e w1 ⟨rfl, hb⟩; have HB1 := Lib.hid hb; have k0 := new0 hb; have k1 := new1 hb; have c0' := (looks_at HL.out hb).cells.1; clear hb) | (go_at_call 9; refine (takes_r _ m HIX.out _ (tab_at HL.out HB1.out)).mono ?_; rintro e w2 ⟨rfl, hb⟩; have HB2 := step_at HB1.out hb; clear k0 k1 c0'; have k0 := new0 HB2.out; have k1 := new1 HB2.out; have c0' := (looks_at HL.out HB2.out).cells.1; have c6' := (looks_at HL.out HB2.out).cells.2.2.2.2.2.2.1; clear hb; have e3' := ((below_of_alloc HB2.out).cell (p := ⟨bf, of + j * 5 + 1, none⟩) hzf').trans e3))
        go_quiet (fail)
        have HBX := drewN_at HB2.out nq
        go_wp2_with (first | (at_lookup; refine wpList_lookup_own_int _ rfl _ _ 67 rfl 3 3 .i64 lawInt Tryd.underlying67 Tryd.underlying3 (zeroInt _) bm nm D rfl (own_at HO.out HBX.out) _ _ rfl HKEY.out ?_; intro c' hat hwc; obtain rfl : c' = dk := by have := hat.symm.trans HAT.out; simpa [lit64] using this) | (go_at_call 39; refine (leaves_r _ m HIX.out _ (tab_at HL.out HBX.out)).mono ?_; rintro e w3 ⟨rfl, hb⟩; have HB4 := step_at HBX.out hb; clear k0 k1; have k0 := new0 HB4.out; have k1 := new1 HB4.out; clear hb) | (go_at_call 22; refine (reaches_yes w0 _ B bm bc fs f _ _ st st1 (looks_at HL.out HB4.out) _ _ HWY.out HR.out).mono ?_; rintro e w4 ⟨rfl, hl⟩; have HL4 := Lib.hid hl; clear hl))
        go_ret
        exact (show Placed w0 B bm bc fs f _ _ (some _) _ _ from ⟨rfl, HL4.out⟩)
  have htk : takesV fs ⟨op, x, n⟩ = tk m := by unfold takesV; rw [if_neg h17, HIX.out]
  simp only [restV, htk] at hz
  clear htk
  have k17 : (op == 17) = false := by simpa using h17
  by_cases h18 : op = 18
  · subst h18
    by_cases hz0 : z < 0
    · rw [if_pos hz0] at hr
      subst hr
      go_enter Tryd.func23, Tryd.ntmps23
      go_wp2_with (first | (go_at_call 38; refine (operands_r w0 _ B bm bc fs f _ _ st (HL.out.stay ((Below.refl _ _).alloc (Nat.le_refl _) _)) ⟨18, x, n⟩ true HOP.out).mono ?_; rintro e w1 ⟨rfl, hb⟩; have HB1 := Lib.hid hb; have k0 := new0 hb; have k1 := new1 hb; have c0' := (looks_at HL.out hb).cells.1; clear hb) | (go_at_call 9; refine (takes_r _ m HIX.out _ (tab_at HL.out HB1.out)).mono ?_; rintro e w2 ⟨rfl, hb⟩; have HB2 := step_at HB1.out hb; clear k0 k1 c0'; have k0 := new0 HB2.out; have k1 := new1 HB2.out; have c0' := (looks_at HL.out HB2.out).cells.1; have c6' := (looks_at HL.out HB2.out).cells.2.2.2.2.2.2.1; clear hb; have HBX := Lib.hid HB2.out) | (at_lookup; refine wpList_lookup_own_int _ rfl _ _ 67 rfl 3 3 .i64 lawInt Tryd.underlying67 Tryd.underlying3 (zeroInt _) bm nm D rfl (own_at HO.out HBX.out) _ _ rfl HKEY.out ?_; intro c' hat hwc; obtain rfl : c' = dk := by have := hat.symm.trans HAT.out; simpa [lit64] using this) | (go_at_call 39; refine (leaves_r _ m HIX.out _ (tab_at HL.out HBX.out)).mono ?_; rintro e w3 ⟨rfl, hb⟩; have HB4 := step_at HBX.out hb; clear k0 k1; have k0 := new0 HB4.out; have k1 := new1 HB4.out; clear hb))
      go_ret
      exact (show Placed w0 B bm bc fs f _ _ none _ _ from ⟨rfl, (looks_at HL.out HBX.out).below⟩)
    · rw [if_neg hz0] at hr
      rw [if_pos rfl] at hr
      subst hr
      go_enter Tryd.func23, Tryd.ntmps23
      go_wp2_with (first | (go_at_call 38; refine (operands_r w0 _ B bm bc fs f _ _ st (HL.out.stay ((Below.refl _ _).alloc (Nat.le_refl _) _)) ⟨18, x, n⟩ true HOP.out).mono ?_; rintro e w1 ⟨rfl, hb⟩; have HB1 := Lib.hid hb; have k0 := new0 hb; have k1 := new1 hb; have c0' := (looks_at HL.out hb).cells.1; clear hb) | (go_at_call 9; refine (takes_r _ m HIX.out _ (tab_at HL.out HB1.out)).mono ?_; rintro e w2 ⟨rfl, hb⟩; have HB2 := step_at HB1.out hb; clear k0 k1 c0'; have k0 := new0 HB2.out; have k1 := new1 HB2.out; have c0' := (looks_at HL.out HB2.out).cells.1; have c6' := (looks_at HL.out HB2.out).cells.2.2.2.2.2.2.1; clear hb; have HBX := Lib.hid HB2.out) | (at_lookup; refine wpList_lookup_own_int _ rfl _ _ 67 rfl 3 3 .i64 lawInt Tryd.underlying67 Tryd.underlying3 (zeroInt _) bm nm D rfl (own_at HO.out HBX.out) _ _ rfl HKEY.out ?_; intro c' hat hwc; obtain rfl : c' = dk := by have := hat.symm.trans HAT.out; simpa [lit64] using this) | (go_at_call 39; refine (leaves_r _ m HIX.out _ (tab_at HL.out HBX.out)).mono ?_; rintro e w3 ⟨rfl, hb⟩; have HB4 := step_at HBX.out hb; clear k0 k1; have k0 := new0 HB4.out; have k1 := new1 HB4.out; clear hb))
      go_ret
      exact (show Placed w0 B bm bc fs f _ _ (some _) _ _ from ⟨rfl, looks_at HL.out HB4.out⟩)
  have k18 : (op == 18) = false := by simpa using h18
  by_cases h15 : op = 15
  · subst h15
    by_cases hz0 : z < 0
    · rw [if_pos hz0] at hr
      subst hr
      go_enter Tryd.func23, Tryd.ntmps23
      go_wp2_with (first | (go_at_call 38; refine (operands_r w0 _ B bm bc fs f _ _ st (HL.out.stay ((Below.refl _ _).alloc (Nat.le_refl _) _)) ⟨15, x, n⟩ true HOP.out).mono ?_; rintro e w1 ⟨rfl, hb⟩; have HB1 := Lib.hid hb; have k0 := new0 hb; have k1 := new1 hb; have c0' := (looks_at HL.out hb).cells.1; clear hb) | (go_at_call 9; refine (takes_r _ m HIX.out _ (tab_at HL.out HB1.out)).mono ?_; rintro e w2 ⟨rfl, hb⟩; have HB2 := step_at HB1.out hb; clear k0 k1 c0'; have k0 := new0 HB2.out; have k1 := new1 HB2.out; have c0' := (looks_at HL.out HB2.out).cells.1; have c6' := (looks_at HL.out HB2.out).cells.2.2.2.2.2.2.1; clear hb; have HBX := Lib.hid HB2.out) | (at_lookup; refine wpList_lookup_own_int _ rfl _ _ 67 rfl 3 3 .i64 lawInt Tryd.underlying67 Tryd.underlying3 (zeroInt _) bm nm D rfl (own_at HO.out HBX.out) _ _ rfl HKEY.out ?_; intro c' hat hwc; obtain rfl : c' = dk := by have := hat.symm.trans HAT.out; simpa [lit64] using this) | (go_at_call 39; refine (leaves_r _ m HIX.out _ (tab_at HL.out HBX.out)).mono ?_; rintro e w3 ⟨rfl, hb⟩; have HB4 := step_at HBX.out hb; clear k0 k1; have k0 := new0 HB4.out; have k1 := new1 HB4.out; clear hb))
      go_ret
      exact (show Placed w0 B bm bc fs f _ _ none _ _ from ⟨rfl, (looks_at HL.out HBX.out).below⟩)
    · rw [if_neg hz0] at hr
      rw [if_neg (by decide), if_pos rfl] at hr
      cases r with
      | none =>
        have HR := Lib.hid hr
        clear hr
        go_enter Tryd.func23, Tryd.ntmps23
        go_wp2_with (first | (go_at_call 38; refine (operands_r w0 _ B bm bc fs f _ _ st (HL.out.stay ((Below.refl _ _).alloc (Nat.le_refl _) _)) ⟨15, x, n⟩ true HOP.out).mono ?_; rintro e w1 ⟨rfl, hb⟩; have HB1 := Lib.hid hb; have k0 := new0 hb; have k1 := new1 hb; have c0' := (looks_at HL.out hb).cells.1; clear hb) | (go_at_call 9; refine (takes_r _ m HIX.out _ (tab_at HL.out HB1.out)).mono ?_; rintro e w2 ⟨rfl, hb⟩; have HB2 := step_at HB1.out hb; clear k0 k1 c0'; have k0 := new0 HB2.out; have k1 := new1 HB2.out; have c0' := (looks_at HL.out HB2.out).cells.1; have c6' := (looks_at HL.out HB2.out).cells.2.2.2.2.2.2.1; clear hb; have HBX := Lib.hid HB2.out) | (at_lookup; refine wpList_lookup_own_int _ rfl _ _ 67 rfl 3 3 .i64 lawInt Tryd.underlying67 Tryd.underlying3 (zeroInt _) bm nm D rfl (own_at HO.out HBX.out) _ _ rfl HKEY.out ?_; intro c' hat hwc; obtain rfl : c' = dk := by have := hat.symm.trans HAT.out; simpa [lit64] using this) | (go_at_call 39; refine (leaves_r _ m HIX.out _ (tab_at HL.out HBX.out)).mono ?_; rintro e w3 ⟨rfl, hb⟩; have HB4 := step_at HBX.out hb; clear k0 k1; have k0 := new0 HB4.out; have k1 := new1 HB4.out; clear hb) | (go_at_call 22; refine (reaches_no w0 _ B bm bc fs f _ _ st (looks_at HL.out HB4.out) _ _ HR.out).mono ?_; rintro e w4 ⟨rfl, rfl⟩))
        go_ret
        exact (show Placed w0 B bm bc fs f _ _ none _ _ from ⟨rfl, (looks_at HL.out HB4.out).below⟩)
      | some st1 =>
        have HR := Lib.hid hr
        clear hr
        go_enter Tryd.func23, Tryd.ntmps23
        go_wp2_with (first | (go_at_call 38; refine (operands_r w0 _ B bm bc fs f _ _ st (HL.out.stay ((Below.refl _ _).alloc (Nat.le_refl _) _)) ⟨15, x, n⟩ true HOP.out).mono ?_; rintro e w1 ⟨rfl, hb⟩; have HB1 := Lib.hid hb; have k0 := new0 hb; have k1 := new1 hb; have c0' := (looks_at HL.out hb).cells.1; clear hb) | (go_at_call 9; refine (takes_r _ m HIX.out _ (tab_at HL.out HB1.out)).mono ?_; rintro e w2 ⟨rfl, hb⟩; have HB2 := step_at HB1.out hb; clear k0 k1 c0'; have k0 := new0 HB2.out; have k1 := new1 HB2.out; have c0' := (looks_at HL.out HB2.out).cells.1; have c6' := (looks_at HL.out HB2.out).cells.2.2.2.2.2.2.1; clear hb; have HBX := Lib.hid HB2.out) | (at_lookup; refine wpList_lookup_own_int _ rfl _ _ 67 rfl 3 3 .i64 lawInt Tryd.underlying67 Tryd.underlying3 (zeroInt _) bm nm D rfl (own_at HO.out HBX.out) _ _ rfl HKEY.out ?_; intro c' hat hwc; obtain rfl : c' = dk := by have := hat.symm.trans HAT.out; simpa [lit64] using this) | (go_at_call 39; refine (leaves_r _ m HIX.out _ (tab_at HL.out HBX.out)).mono ?_; rintro e w3 ⟨rfl, hb⟩; have HB4 := step_at HBX.out hb; clear k0 k1; have k0 := new0 HB4.out; have k1 := new1 HB4.out; clear hb) | (go_at_call 22; refine (reaches_yes w0 _ B bm bc fs f _ _ st st1 (looks_at HL.out HB4.out) _ _ HWY.out HR.out).mono ?_; rintro e w4 ⟨rfl, hl⟩; have HL4 := Lib.hid hl; clear hl))
        go_ret
        exact (show Placed w0 B bm bc fs f _ _ (some _) _ _ from ⟨rfl, HL4.out⟩)
  have k15 : (op == 15) = false := by simpa using h15
  by_cases h16 : op = 16
  · subst h16
    by_cases hz0 : z < 0
    · rw [if_pos hz0] at hr
      subst hr
      go_enter Tryd.func23, Tryd.ntmps23
      go_wp2_with (first | (go_at_call 38; refine (operands_r w0 _ B bm bc fs f _ _ st (HL.out.stay ((Below.refl _ _).alloc (Nat.le_refl _) _)) ⟨16, x, n⟩ true HOP.out).mono ?_; rintro e w1 ⟨rfl, hb⟩; have HB1 := Lib.hid hb; have k0 := new0 hb; have k1 := new1 hb; have c0' := (looks_at HL.out hb).cells.1; clear hb) | (go_at_call 9; refine (takes_r _ m HIX.out _ (tab_at HL.out HB1.out)).mono ?_; rintro e w2 ⟨rfl, hb⟩; have HB2 := step_at HB1.out hb; clear k0 k1 c0'; have k0 := new0 HB2.out; have k1 := new1 HB2.out; have c0' := (looks_at HL.out HB2.out).cells.1; have c6' := (looks_at HL.out HB2.out).cells.2.2.2.2.2.2.1; clear hb; have HBX := Lib.hid HB2.out) | (at_lookup; refine wpList_lookup_own_int _ rfl _ _ 67 rfl 3 3 .i64 lawInt Tryd.underlying67 Tryd.underlying3 (zeroInt _) bm nm D rfl (own_at HO.out HBX.out) _ _ rfl HKEY.out ?_; intro c' hat hwc; obtain rfl : c' = dk := by have := hat.symm.trans HAT.out; simpa [lit64] using this) | (go_at_call 39; refine (leaves_r _ m HIX.out _ (tab_at HL.out HBX.out)).mono ?_; rintro e w3 ⟨rfl, hb⟩; have HB4 := step_at HBX.out hb; clear k0 k1; have k0 := new0 HB4.out; have k1 := new1 HB4.out; clear hb))
      go_ret
      exact (show Placed w0 B bm bc fs f _ _ none _ _ from ⟨rfl, (looks_at HL.out HBX.out).below⟩)
    · rw [if_neg hz0] at hr
      rw [if_neg (by decide), if_neg (by decide), if_pos rfl] at hr
      rcases hr1 : st.reach f.l.length x y with _ | st1
      · have HR := Lib.hid hr1
        rw [hr1] at hr
        subst hr
        clear hr1
        go_enter Tryd.func23, Tryd.ntmps23
        go_wp2_with (first | (go_at_call 38; refine (operands_r w0 _ B bm bc fs f _ _ st (HL.out.stay ((Below.refl _ _).alloc (Nat.le_refl _) _)) ⟨16, x, n⟩ true HOP.out).mono ?_; rintro e w1 ⟨rfl, hb⟩; have HB1 := Lib.hid hb; have k0 := new0 hb; have k1 := new1 hb; have c0' := (looks_at HL.out hb).cells.1; clear hb) | (go_at_call 9; refine (takes_r _ m HIX.out _ (tab_at HL.out HB1.out)).mono ?_; rintro e w2 ⟨rfl, hb⟩; have HB2 := step_at HB1.out hb; clear k0 k1 c0'; have k0 := new0 HB2.out; have k1 := new1 HB2.out; have c0' := (looks_at HL.out HB2.out).cells.1; have c6' := (looks_at HL.out HB2.out).cells.2.2.2.2.2.2.1; clear hb; have HBX := Lib.hid HB2.out) | (at_lookup; refine wpList_lookup_own_int _ rfl _ _ 67 rfl 3 3 .i64 lawInt Tryd.underlying67 Tryd.underlying3 (zeroInt _) bm nm D rfl (own_at HO.out HBX.out) _ _ rfl HKEY.out ?_; intro c' hat hwc; obtain rfl : c' = dk := by have := hat.symm.trans HAT.out; simpa [lit64] using this) | (go_at_call 39; refine (leaves_r _ m HIX.out _ (tab_at HL.out HBX.out)).mono ?_; rintro e w3 ⟨rfl, hb⟩; have HB4 := step_at HBX.out hb; clear k0 k1; have k0 := new0 HB4.out; have k1 := new1 HB4.out; clear hb) | (go_at_call 22; refine (reaches_no w0 _ B bm bc fs f _ _ st (looks_at HL.out HB4.out) _ _ HR.out).mono ?_; rintro e w4 ⟨rfl, rfl⟩))
        go_ret
        exact (show Placed w0 B bm bc fs f _ _ none _ _ from ⟨rfl, (looks_at HL.out HB4.out).below⟩)
      · have HR := Lib.hid hr1
        rw [hr1] at hr
        clear hr1
        dsimp only [Option.bind_some] at hr
        cases r with
        | none =>
          have HR2 := Lib.hid hr
          clear hr
          go_enter Tryd.func23, Tryd.ntmps23
          go_wp2_with (first | (go_at_call 38; refine (operands_r w0 _ B bm bc fs f _ _ st (HL.out.stay ((Below.refl _ _).alloc (Nat.le_refl _) _)) ⟨16, x, n⟩ true HOP.out).mono ?_; rintro e w1 ⟨rfl, hb⟩; have HB1 := Lib.hid hb; have k0 := new0 hb; have k1 := new1 hb; have c0' := (looks_at HL.out hb).cells.1; clear hb) | (go_at_call 9; refine (takes_r _ m HIX.out _ (tab_at HL.out HB1.out)).mono ?_; rintro e w2 ⟨rfl, hb⟩; have HB2 := step_at HB1.out hb; clear k0 k1 c0'; have k0 := new0 HB2.out; have k1 := new1 HB2.out; have c0' := (looks_at HL.out HB2.out).cells.1; have c6' := (looks_at HL.out HB2.out).cells.2.2.2.2.2.2.1; clear hb; have HBX := Lib.hid HB2.out) | (at_lookup; refine wpList_lookup_own_int _ rfl _ _ 67 rfl 3 3 .i64 lawInt Tryd.underlying67 Tryd.underlying3 (zeroInt _) bm nm D rfl (own_at HO.out HBX.out) _ _ rfl HKEY.out ?_; intro c' hat hwc; obtain rfl : c' = dk := by have := hat.symm.trans HAT.out; simpa [lit64] using this) | (go_at_call 39; refine (leaves_r _ m HIX.out _ (tab_at HL.out HBX.out)).mono ?_; rintro e w3 ⟨rfl, hb⟩; have HB4 := step_at HBX.out hb; clear k0 k1; have k0 := new0 HB4.out; have k1 := new1 HB4.out; clear hb) | (go_at_call 22; refine (reaches_no w0 _ B bm bc fs f _ _ st1 HL4.out _ _ HR2.out).mono ?_; rintro e w5 ⟨rfl, rfl⟩) | (go_at_call 22; refine (reaches_yes w0 _ B bm bc fs f _ _ st st1 (looks_at HL.out HB4.out) _ _ HWY.out HR.out).mono ?_; rintro e w4 ⟨rfl, hl⟩; have HL4 := Lib.hid hl; clear hl))
          go_ret
          exact (show Placed w0 B bm bc fs f _ _ none _ _ from ⟨rfl, HL4.out.below⟩)
        | some st2 =>
          have HR2 := Lib.hid hr
          clear hr
          go_enter Tryd.func23, Tryd.ntmps23
          go_wp2_with (first | (go_at_call 38; refine (operands_r w0 _ B bm bc fs f _ _ st (HL.out.stay ((Below.refl _ _).alloc (Nat.le_refl _) _)) ⟨16, x, n⟩ true HOP.out).mono ?_; rintro e w1 ⟨rfl, hb⟩; have HB1 := Lib.hid hb; have k0 := new0 hb; have k1 := new1 hb; have c0' := (looks_at HL.out hb).cells.1; clear hb) | (go_at_call 9; refine (takes_r _ m HIX.out _ (tab_at HL.out HB1.out)).mono ?_; rintro e w2 ⟨rfl, hb⟩; have HB2 := step_at HB1.out hb; clear k0 k1 c0'; have k0 := new0 HB2.out; have k1 := new1 HB2.out; have c0' := (looks_at HL.out HB2.out).cells.1; have c6' := (looks_at HL.out HB2.out).cells.2.2.2.2.2.2.1; clear hb; have HBX := Lib.hid HB2.out) | (at_lookup; refine wpList_lookup_own_int _ rfl _ _ 67 rfl 3 3 .i64 lawInt Tryd.underlying67 Tryd.underlying3 (zeroInt _) bm nm D rfl (own_at HO.out HBX.out) _ _ rfl HKEY.out ?_; intro c' hat hwc; obtain rfl : c' = dk := by have := hat.symm.trans HAT.out; simpa [lit64] using this) | (go_at_call 39; refine (leaves_r _ m HIX.out _ (tab_at HL.out HBX.out)).mono ?_; rintro e w3 ⟨rfl, hb⟩; have HB4 := step_at HBX.out hb; clear k0 k1; have k0 := new0 HB4.out; have k1 := new1 HB4.out; clear hb) | (go_at_call 22; refine (reaches_yes w0 _ B bm bc fs f _ _ st1 st2 HL4.out _ _ HWY.out HR2.out).mono ?_; rintro e w5 ⟨rfl, hl⟩; have HL5 := Lib.hid hl; clear hl) | (go_at_call 22; refine (reaches_yes w0 _ B bm bc fs f _ _ st st1 (looks_at HL.out HB4.out) _ _ HWY.out HR.out).mono ?_; rintro e w4 ⟨rfl, hl⟩; have HL4 := Lib.hid hl; clear hl))
          go_ret
          exact (show Placed w0 B bm bc fs f _ _ (some _) _ _ from ⟨rfl, HL5.out⟩)
  have k16 : (op == 16) = false := by simpa using h16
  by_cases hz0 : z < 0
  · rw [if_pos hz0] at hr
    subst hr
    go_enter Tryd.func23, Tryd.ntmps23
    go_wp2_with (first | (go_at_call 38; refine (operands_r w0 _ B bm bc fs f _ _ st (HL.out.stay ((Below.refl _ _).alloc (Nat.le_refl _) _)) ⟨op, x, n⟩ true HOP.out).mono ?_; rintro e w1 ⟨rfl, hb⟩; have HB1 := Lib.hid hb; have k0 := new0 hb; have k1 := new1 hb; have c0' := (looks_at HL.out hb).cells.1; clear hb) | (go_at_call 9; refine (takes_r _ m HIX.out _ (tab_at HL.out HB1.out)).mono ?_; rintro e w2 ⟨rfl, hb⟩; have HB2 := step_at HB1.out hb; clear k0 k1 c0'; have k0 := new0 HB2.out; have k1 := new1 HB2.out; have c0' := (looks_at HL.out HB2.out).cells.1; have c6' := (looks_at HL.out HB2.out).cells.2.2.2.2.2.2.1; clear hb; have HBX := Lib.hid HB2.out) | (at_lookup; refine wpList_lookup_own_int _ rfl _ _ 67 rfl 3 3 .i64 lawInt Tryd.underlying67 Tryd.underlying3 (zeroInt _) bm nm D rfl (own_at HO.out HBX.out) _ _ rfl HKEY.out ?_; intro c' hat hwc; obtain rfl : c' = dk := by have := hat.symm.trans HAT.out; simpa [lit64] using this) | (go_at_call 39; refine (leaves_r _ m HIX.out _ (tab_at HL.out HBX.out)).mono ?_; rintro e w3 ⟨rfl, hb⟩; have HB4 := step_at HBX.out hb; clear k0 k1; have k0 := new0 HB4.out; have k1 := new1 HB4.out; clear hb))
    go_ret
    exact (show Placed w0 B bm bc fs f _ _ none _ _ from ⟨rfl, (looks_at HL.out HBX.out).below⟩)
  · rw [if_neg hz0] at hr
    rw [if_neg h18, if_neg h15, if_neg h16] at hr
    clear h17 h18 h15 h16
    cases r with
    | none =>
      have HR := Lib.hid hr
      clear hr
      go_enter Tryd.func23, Tryd.ntmps23
      go_wp2_with (first | (go_at_call 38; refine (operands_r w0 _ B bm bc fs f _ _ st (HL.out.stay ((Below.refl _ _).alloc (Nat.le_refl _) _)) ⟨op, x, n⟩ true HOP.out).mono ?_; rintro e w1 ⟨rfl, hb⟩; have HB1 := Lib.hid hb; have k0 := new0 hb; have k1 := new1 hb; have c0' := (looks_at HL.out hb).cells.1; clear hb) | (go_at_call 9; refine (takes_r _ m HIX.out _ (tab_at HL.out HB1.out)).mono ?_; rintro e w2 ⟨rfl, hb⟩; have HB2 := step_at HB1.out hb; clear k0 k1 c0'; have k0 := new0 HB2.out; have k1 := new1 HB2.out; have c0' := (looks_at HL.out HB2.out).cells.1; have c6' := (looks_at HL.out HB2.out).cells.2.2.2.2.2.2.1; clear hb; have HBX := Lib.hid HB2.out) | (at_lookup; refine wpList_lookup_own_int _ rfl _ _ 67 rfl 3 3 .i64 lawInt Tryd.underlying67 Tryd.underlying3 (zeroInt _) bm nm D rfl (own_at HO.out HBX.out) _ _ rfl HKEY.out ?_; intro c' hat hwc; obtain rfl : c' = dk := by have := hat.symm.trans HAT.out; simpa [lit64] using this) | (go_at_call 39; refine (leaves_r _ m HIX.out _ (tab_at HL.out HBX.out)).mono ?_; rintro e w3 ⟨rfl, hb⟩; have HB4 := step_at HBX.out hb; clear k0 k1; have k0 := new0 HB4.out; have k1 := new1 HB4.out; clear hb) | (go_at_call 22; refine (reaches_no w0 _ B bm bc fs f _ _ st (looks_at HL.out HB4.out) _ _ HR.out).mono ?_; rintro e w4 ⟨rfl, rfl⟩))
      go_ret
      exact (show Placed w0 B bm bc fs f _ _ none _ _ from ⟨rfl, (looks_at HL.out HB4.out).below⟩)
    | some st1 =>
      have HR := Lib.hid hr
      clear hr
      go_enter Tryd.func23, Tryd.ntmps23
      go_wp2_with (first | (go_at_call 38; refine (operands_r w0 _ B bm bc fs f _ _ st (HL.out.stay ((Below.refl _ _).alloc (Nat.le_refl _) _)) ⟨op, x, n⟩ true HOP.out).mono ?_; rintro e w1 ⟨rfl, hb⟩; have HB1 := Lib.hid hb; have k0 := new0 hb; have k1 := new1 hb; have c0' := (looks_at HL.out hb).cells.1; clear hb) | (go_at_call 9; refine (takes_r _ m HIX.out _ (tab_at HL.out HB1.out)).mono ?_; rintro e w2 ⟨rfl, hb⟩; have HB2 := step_at HB1.out hb; clear k0 k1 c0'; have k0 := new0 HB2.out; have k1 := new1 HB2.out; have c0' := (looks_at HL.out HB2.out).cells.1; have c6' := (looks_at HL.out HB2.out).cells.2.2.2.2.2.2.1; clear hb; have HBX := Lib.hid HB2.out) | (at_lookup; refine wpList_lookup_own_int _ rfl _ _ 67 rfl 3 3 .i64 lawInt Tryd.underlying67 Tryd.underlying3 (zeroInt _) bm nm D rfl (own_at HO.out HBX.out) _ _ rfl HKEY.out ?_; intro c' hat hwc; obtain rfl : c' = dk := by have := hat.symm.trans HAT.out; simpa [lit64] using this) | (go_at_call 39; refine (leaves_r _ m HIX.out _ (tab_at HL.out HBX.out)).mono ?_; rintro e w3 ⟨rfl, hb⟩; have HB4 := step_at HBX.out hb; clear k0 k1; have k0 := new0 HB4.out; have k1 := new1 HB4.out; clear hb) | (go_at_call 22; refine (reaches_yes w0 _ B bm bc fs f _ _ st st1 (looks_at HL.out HB4.out) _ _ HWY.out HR.out).mono ?_; rintro e w4 ⟨rfl, hl⟩; have HL4 := Lib.hid hl; clear hl))
      go_ret
      exact (show Placed w0 B bm bc fs f _ _ (some _) _ _ from ⟨rfl, HL4.out⟩)
end Go.Proofs.YthfgagljplabpaaDoor.V
