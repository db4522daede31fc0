/- compile.Compile: a program's code. -/
import Derived.Test.YthjjcmmonjajhaaGreatDoorCompRep
import Derived.Great.Walk
namespace Go.Proofs.YthjjcmmonjajhaaGreatDoor
open Go.RowKit Go.Sort
set_option linter.unusedVariables false

/-- What the operation that makes a function's row comes to, and the one that appends it. -/
def PHc (row : List Value) (v : Value) (w : World) : Prop := ∃ g, v = .slice (some ⟨g, 0, none⟩) 1 1 ∧ w.heap[g]? = some (.cells row.toArray 41 (0, 0))
def PWc (w3 w7 : World) (la : Option Addr) (lc K : Nat) (row : List Value) (v : Value) (w : World) : Prop := ∃ wx g' cap', v = .slice (some ⟨g', 0, none⟩) (K + 1) cap' ∧ Below w7.heap.size w7 wx ∧ (∃ xs, wx.ownsRow w3.heap.size 41 5 (.slice la K lc) K xs ∧ w.ownsRow w3.heap.size 41 5 v (K + 1) (xs ++ row)) ∧ wx.grownBy w (Value.slice la K lc).ownBlock
theorem PHc.alloc {row : List Value} {v : Value} {w : World} (h : PHc row v w) (o : Obj) : PHc row v (w.alloc o) := by
  obtain ⟨g, h1, h2⟩ := h
  exact ⟨g, h1, (Below.heap_alloc _ _ g (lt_of_heap h2)).trans h2⟩
theorem PHc.new (row : List Value) (w : World) : PHc row (.slice (some ⟨w.heap.size, 0, none⟩) 1 1) (w.alloc (.cells row.toArray 41)) := ⟨_, rfl, heap_alloc_new _ _⟩
set_option maxHeartbeats 8000000 in
set_option maxRecDepth 1000000 in
theorem compile_bad (a1 a2 : Option Addr) (n1 n2 k1 k2 : Nat) (p : PT) (w : World) (ht : Tab w) (hp : PR w (.slice a1 n1 k1) (.slice a2 n2 k2) p) (hN : p.nodes.length ≤ 2000000) (r : Int) (hr : p.resolve = r) (h0 : r ≠ 0) :
    Calls Tryz.prog 5 #[.agg #[.slice a1 n1 k1, .slice a2 n2 k2]] w fun e w' => e = .returned (.tuple #[.agg #[.slice none 0 0], .int .i64 r]) ∧ Below w.heap.size w w' := by
  have HT := Lib.hid ht
  have HP := Lib.hid hp
  have HR := Lib.hid hr
  have HN : Hid (p.nodes.length ≤ 4000000) := by show _ ≤ _; omega
  have H0 := Lib.hid h0
  have hne : (r != 0) = true := by simpa using h0
  obtain ⟨q, hq⟩ : ∃ q, p.right = q := ⟨_, rfl⟩
  have HQ := Lib.hid hq
  have hqr : q ≠ 0 → q = r := fun h => by
    rw [← hr]; unfold PT.resolve; rw [if_neg (by rw [hq]; exact h), hq]
  have HQR := Lib.hid hqr
  clear ht hp hr h0 hN hq hqr
  have HB := hb_start w
  have HBA : Hid (Below w.heap.size w ((w.alloc (.cells #[.slice a1 n1 k1, .slice a2 n2 k2] 25)).alloc (.cells #[.slice none 0 0] 29))) := hb_alloc (hb_alloc HB _) _
  have HXA : Hid (((w.alloc (.cells #[.slice a1 n1 k1, .slice a2 n2 k2] 25)).alloc (.cells #[.slice none 0 0] 29)).heap[w.heap.size]? = some (.cells #[.slice a1 n1 k1, .slice a2 n2 k2] 25 (0, 0))) := (Below.heap_alloc _ _ _ (by rw [World.size_alloc]; omega)).trans (heap_alloc_new _ _)
  have HCA : Hid (((w.alloc (.cells #[.slice a1 n1 k1, .slice a2 n2 k2] 25)).alloc (.cells #[.slice none 0 0] 29)).heap[w.heap.size + 1]? = some (.cells #[.slice none 0 0] 29 (0, 0))) := by
    have := heap_alloc_new (w.alloc (.cells #[.slice a1 n1 k1, .slice a2 n2 k2] 25)) (.cells #[.slice none 0 0] 29)
    rwa [World.size_alloc] at this
  by_cases hq0 : q = 0
  · subst hq0
    go_enter Tryz.func5, Tryz.ntmps5
    go_wp2_with fail
    refine (right_r a1 a2 n1 n2 k1 k2 p _ (Tab.at HT HBA) (HP.out.stay HBA.out) _ HQ.out).mono ?_
    rintro e w2 ⟨rfl, hb⟩
    have HB2 : Hid (Below w.heap.size w w2) := hb_step HBA hb
    have HX2 := Lib.hid ((hb.block _ (lt_of_heap HXA.out)).trans HXA.out)
    have HC2 := Lib.hid ((hb.block _ (lt_of_heap HCA.out)).trans HCA.out)
    have c0 : w2.cell? ⟨w.heap.size, 0, none⟩ = some (.slice a1 n1 k1) := cell_of_heap HX2.out 0
    have c1 : w2.cell? ⟨w.heap.size, 1, none⟩ = some (.slice a2 n2 k2) := cell_of_heap HX2.out 1
    clear hb
    go_wp2_with fail
    refine (resolve_r a1 a2 n1 n2 k1 k2 p _ (Tab.at HT HB2) (HP.out.stay HB2.out) HN.out _ HR.out).mono ?_
    rintro e w3 ⟨v, rfl, hb, _, hv⟩
    obtain rfl := hv H0.out
    have HB3 : Hid (Below w.heap.size w w3) := hb_step HB2 hb
    have HC3 := Lib.hid ((hb.block _ (lt_of_heap HC2.out)).trans HC2.out)
    have d0 : w3.cell? ⟨w.heap.size + 1, 0, none⟩ = some (.slice none 0 0) := cell_of_heap HC3.out 0
    have d1 : w3.frozen? ⟨w.heap.size + 1, 0, none⟩ = false := free_of_heap HC3.out 0
    clear hb c0 c1
    go_wp2_with fail
    refine bodyPost_ret (results_cell_tmp9 rfl _ _ (w.heap.size + 1) 29 #[.slice none 0 0] (0, 0) _ rfl (by have := heap_set HC3.out 0 (.slice none 0 0); simpa using this) Tryz.underlying29 rfl rfl) rfl ?_
    exact ⟨rfl, HB3.out.setCell (p := ⟨w.heap.size + 1, 0, none⟩) (by simp) _⟩
  · obtain rfl := HQR.out hq0
    go_enter Tryz.func5, Tryz.ntmps5
    go_wp2_with fail
    refine (right_r a1 a2 n1 n2 k1 k2 p _ (Tab.at HT HBA) (HP.out.stay HBA.out) _ HQ.out).mono ?_
    rintro e w2 ⟨rfl, hb⟩
    have HB2 : Hid (Below w.heap.size w w2) := hb_step HBA hb
    have HC2 := Lib.hid ((hb.block _ (lt_of_heap HCA.out)).trans HCA.out)
    have d0 : w2.cell? ⟨w.heap.size + 1, 0, none⟩ = some (.slice none 0 0) := cell_of_heap HC2.out 0
    have d1 : w2.frozen? ⟨w.heap.size + 1, 0, none⟩ = false := free_of_heap HC2.out 0
    clear hb
    go_wp2_with fail
    refine bodyPost_ret (results_cell_tmp9 rfl _ _ (w.heap.size + 1) 29 #[.slice none 0 0] (0, 0) _ rfl (by have := heap_set HC2.out 0 (.slice none 0 0); simpa using this) Tryz.underlying29 rfl rfl) rfl ?_
    exact ⟨rfl, HB2.out.setCell (p := ⟨w.heap.size + 1, 0, none⟩) (by simp) _⟩

theorem CS.vsl_set {w3 wr : World} {cb c2 : Nat} {l : List VF} (h : CS w3 cb l l.length wr) (h2 : c2 < w3.heap.size) (hs : ∀ i, i < l.length → (l.getD i default).l.length ≤ 17592186044416) : ∃ a cap, wr.heap[cb]? = some (.cells #[.slice a l.length cap] 29 (0, 0)) ∧ ∀ x, VSl (wr.setCell ⟨c2, 0, none⟩ x) (.slice a l.length cap) l := by
  obtain ⟨_, lv, ls, hcb, hr, hi⟩ := h
  have keep : ∀ (x : Value) {e : TypeId} {size n : Nat} {v : Value} {ys : List Value}, wr.ownsRow w3.heap.size e size v n ys → (wr.setCell ⟨c2, 0, none⟩ x).ownsRow w3.heap.size e size v n ys := fun x _ _ _ _ _ hy =>
    hy.kept (grown_set wr c2 0 x) (.inr (fun e' => by have := own_ge hy e'; omega))
  obtain ⟨a, cap, rfl⟩ := own_shape hr
  refine ⟨a, cap, hcb, fun x => ?_⟩
  have hr' := keep x hr
  have hr2 := hr'
  obtain ⟨_, ⟨hv, h0⟩ | ⟨q, cap', cur, hv, _, hk, hn, hmx, hsz, ht⟩⟩ := hr2
  · obtain rfl : l = [] := List.eq_nil_of_length_eq_zero h0
    cases hv
    exact VSl.nil _
  · cases hv
    refine VSl.mk (some ⟨q, 0, none⟩) q 0 cap l ls (fun _ => rfl) hn hmx (fun i hi' => ?_) (fun i hi' => own_isl (hs i hi') (keep x (hi i hi')))
    have hc : ∀ j, j < 5 → (wr.setCell ⟨c2, 0, none⟩ x).cell? ⟨q, i * 5 + j, none⟩ = (fnC l ls i)[j]? := fun j hj => by
      rw [own_cell hr' _ (by omega)]
      exact rows_at 5 (fnC l ls) (fun _ => rfl) _ i j hi' hj
    simp only [Nat.zero_add]
    exact ⟨hc 0 (by omega), hc 1 (by omega), hc 2 (by omega), hc 3 (by omega), hc 4 (by omega)⟩
theorem run_store_slice (w : World) (b j : Nat) (t : TypeId) (hi : (Tryz.prog.info? t).map (·.size) = some 1) (a : Option Addr) (n c : Nat) (u : Value) (hc : w.cell? ⟨b, j, none⟩ = some u) (hf : w.frozen? ⟨b, j, none⟩ = false) : (Instr.storeAt t (.pointer (some ⟨b, j, none⟩)) (.slice a n c)).run Tryz.prog w = .ok () (w.setCell ⟨b, j, none⟩ (.slice a n c)) := by
  cases hq : Tryz.prog.info? t with
  | none => simp [hq] at hi
  | some i =>
    have hs : i.size = 1 := by simpa [hq] using hi
    have key : (storeCells ⟨b, j, none⟩ [.slice a n c]).run Tryz.prog w = .ok () (w.setCell ⟨b, j, none⟩ (.slice a n c)) := by
      unfold storeCells
      have e : (⟨b, j, none⟩ : Addr).add 0 = ⟨b, j, none⟩ := by unfold Addr.add; split <;> simp_all
      simp [e, go_sem, hc, hf, storeCells]
    simp [Instr.storeAt, Instr.sureAddr, storeVar, sizeOf, typeInfo, hq, hs, Value.cells, Result.andThen, key]
theorem PT.resolve0 {p : PT} (h : p.resolve = 0) : p.right = 0 := by
  by_cases h0 : p.right = 0
  · exact h0
  · unfold PT.resolve at h; rw [if_neg h0] at h; exact absurd h h0

set_option maxHeartbeats 16000000 in
set_option maxRecDepth 1000000 in
theorem compile_ok (a1 a2 : Option Addr) (n1 n2 k1 k2 : Nat) (p : PT) (mb mn : Nat) (w : World) (ht : Tab w) (hm : SmpAt w mb mn) (hp : PR w (.slice a1 n1 k1) (.slice a2 n2 k2) p) (hN : p.nodes.length ≤ 2000000) (h0 : p.resolve = 0) :
    Calls Tryz.prog 5 #[.agg #[.slice a1 n1 k1, .slice a2 n2 k2]] w fun e w' => ∃ v, e = .returned (.tuple #[.agg #[v], .int .i64 0]) ∧ Below w.heap.size w w' ∧ VSl w' v p.code := by
  have hr0 := PT.resolve0 h0
  obtain ⟨hl33, hok⟩ := PT.all_ok hr0 hN
  obtain ⟨b, off, ff, gg, hfr⟩ := hp.1.rw9
  have HT := Lib.hid ht
  have HSM := Lib.hid hm
  have HP := Lib.hid hp
  have H0 := Lib.hid h0
  have HQ := Lib.hid hr0
  have HN : Hid (p.nodes.length ≤ 4000000) := by show _ ≤ _; omega
  have HOK := Lib.hid hok
  have HFR := Lib.hid hfr
  have hn32 : n1 ≤ 32 := by have := hfr.len; unfold PT.all at hl33; simp at hl33; omega
  have H32 := Lib.hid hn32
  have HNL : Hid (p.all.length = 1 + n1) := by have := hfr.len; show _ = _; unfold PT.all; simp; omega
  clear ht hm hp h0 hN hok hfr hl33 hn32 hr0
  have HB := hb_start w
  have HBA : Hid (Below w.heap.size w ((w.alloc (.cells #[.slice a1 n1 k1, .slice a2 n2 k2] 25)).alloc (.cells #[.slice none 0 0] 29))) := hb_alloc (hb_alloc HB _) _
  have HXA : Hid (((w.alloc (.cells #[.slice a1 n1 k1, .slice a2 n2 k2] 25)).alloc (.cells #[.slice none 0 0] 29)).heap[w.heap.size]? = some (.cells #[.slice a1 n1 k1, .slice a2 n2 k2] 25 (0, 0))) := (Below.heap_alloc _ _ _ (by rw [World.size_alloc]; omega)).trans (heap_alloc_new _ _)
  have HCA : Hid (((w.alloc (.cells #[.slice a1 n1 k1, .slice a2 n2 k2] 25)).alloc (.cells #[.slice none 0 0] 29)).heap[w.heap.size + 1]? = some (.cells #[.slice none 0 0] 29 (0, 0))) := by
    have := heap_alloc_new (w.alloc (.cells #[.slice a1 n1 k1, .slice a2 n2 k2] 25)) (.cells #[.slice none 0 0] 29)
    rwa [World.size_alloc] at this
  go_enter Tryz.func5, Tryz.ntmps5
  go_wp2_with fail
  refine (right_r a1 a2 n1 n2 k1 k2 p _ (Tab.at HT HBA) (HP.out.stay HBA.out) _ HQ.out).mono ?_
  rintro e w2 ⟨rfl, hb⟩
  have HB2 : Hid (Below w.heap.size w w2) := hb_step HBA hb
  have HX2 := Lib.hid ((hb.block _ (lt_of_heap HXA.out)).trans HXA.out)
  have HC2 := Lib.hid ((hb.block _ (lt_of_heap HCA.out)).trans HCA.out)
  have c0 : w2.cell? ⟨w.heap.size, 0, none⟩ = some (.slice a1 n1 k1) := cell_of_heap HX2.out 0
  have c1 : w2.cell? ⟨w.heap.size, 1, none⟩ = some (.slice a2 n2 k2) := cell_of_heap HX2.out 1
  clear hb
  go_wp2_with fail
  refine (resolve_r a1 a2 n1 n2 k1 k2 p _ (Tab.at HT HB2) (HP.out.stay HB2.out) HN.out _ H0.out).mono ?_
  rintro e w3 ⟨v, rfl, hb, hv, _⟩
  have hcs := hv rfl
  have hsl : p.scopes.length = 1 + n1 := by unfold PT.scopes; rw [List.length_map, HNL.out]
  obtain ⟨xc, zc, rfl, hzl, hzm⟩ := hcs.len9
  rw [hsl] at hcs hzl ⊢
  have HCS := Lib.hid hcs
  have HB3 : Hid (Below w.heap.size w w3) := hb_step HB2 hb
  have HX3 := Lib.hid ((hb.block _ (lt_of_heap HX2.out)).trans HX2.out)
  have HC3 := Lib.hid ((hb.block _ (lt_of_heap HC2.out)).trans HC2.out)
  have HSM3 := Lib.hid (HSM.out.stay HB3.out)
  have HP3 := Lib.hid (HP.out.stay HB3.out)
  have HW3 : Hid (w.heap.size + 1 < w3.heap.size) := lt_of_heap HC3.out
  clear hb c0 c1 hv hcs hsl HXA HCA HBA HX2 HC2 HB2
  go_upto_region 8 with fail
  have HCS0 : Hid (CS w3 w3.heap.size p.code 0 (w3.alloc (.cells #[.slice none 0 0] 29))) :=
    ⟨(Below.refl _ _).alloc (Nat.le_refl _) _, .slice none 0 0, fun _ => .slice none 0 0, heap_alloc_new _ _, World.ownsRow_nil _ _ _ _, fun i hi => absurd hi (by omega)⟩
  obtain ⟨wc, hwc⟩ : ∃ z, w3.alloc (.cells #[.slice none 0 0] 29) = z := ⟨_, rfl⟩
  rw [hwc] at HCS0 ⊢
  generalize hcb : w3.heap.size = cb at HCS0 ⊢
  have HCB := Lib.hid hcb
  clear hwc hcb
  have hn32 := H32.out
  go_wp2_with fail
  go_loopw [28] (fun i wr => ∃ k : Nat, i = .int .i64 k ∧ k ≤ 1 + n1 ∧ Hid (CS w3 cb p.code k wr)) (fun i _ => 1 + n1 - (intOf i).toNat)
  case atStart => exact ⟨0, rfl, by omega, HCS0.out⟩
  case round =>
    obtain ⟨k, rfl, hk, HCK⟩ := hrel
    by_cases hlt : k < 1 + n1
    · have hltI : (k : Int) < 1 + (n1 : Int) := by omega
      obtain ⟨bs, so, va, vc, aa, ac, rfl, ⟨e0, e1, e2, e3⟩, t1, t2⟩ := HCS.out.at9 k hlt
      have hka : k < p.all.length := by rw [HNL.out]; exact hlt
      have hsc : p.scopes.getD k default = FT.sc p.funcs (p.all.getD k default) := by
        unfold PT.scopes
        rw [List.getD_eq_getElem?_getD, List.getElem?_map, List.getElem?_eq_getElem hka, List.getD_eq_getElem?_getD, List.getElem?_eq_getElem hka]; rfl
      have hvf : p.code.getD k default = FT.vf p (p.all.getD k default) := by
        unfold PT.code
        rw [List.getD_eq_getElem?_getD, List.getElem?_map, List.getElem?_eq_getElem hka, List.getD_eq_getElem?_getD, List.getElem?_eq_getElem hka]; rfl
      have hokf : (p.all.getD k default).ok 2000000 := PT.all_at k hka HOK.out
      have hz : bs < w3.heap.size := lt_of_cell e0
      replace e0 := (HCK.out.below.cell (p := ⟨bs, so + k * 4, none⟩) hz).trans e0
      replace e1 := (HCK.out.below.cell (p := ⟨bs, so + k * 4 + 1, none⟩) hz).trans e1
      replace e2 := (HCK.out.below.cell (p := ⟨bs, so + k * 4 + 2, none⟩) hz).trans e2
      replace e3 := (HCK.out.below.cell (p := ⟨bs, so + k * 4 + 3, none⟩) hz).trans e3
      rw [hsc] at e0 e1 e2 e3 t1 t2
      have hbody : ∃ ba bn bc, SSl w3 (.slice ba bn bc) (p.all.getD k default).body ∧ (k = 0 → (ba = a2 ∧ bn = n2 ∧ bc = k2)) ∧ (∀ k0, k = k0 + 1 → ∃ q o, a1 = some ⟨q, o, none⟩ ∧ w3.cell? ⟨q, o + k0 * 3 + 2, none⟩ = some (.slice ba bn bc)) := by
        cases k with
        | zero => exact ⟨a2, n2, k2, HP3.out.2, fun _ => ⟨rfl, rfl, rfl⟩, fun k0 h => by omega⟩
        | succ k0 =>
          have hk0 : k0 < n1 := by omega
          have h1 := HFR.out.at_ (by omega)
          have hc := HFR.out.cell (k0 * 3 + 2) (by omega)
          obtain ⟨_, _, r2⟩ := fcellC_at p.funcs ff gg k0
          rw [r2] at hc
          have hbb := HFR.out.bs k0 hk0
          obtain ⟨ba, bc, hbs⟩ := hbb.shape0'
          rw [hbs] at hc hbb
          have ha : p.all.getD (k0 + 1) default = p.funcs.getD k0 default := by unfold PT.all; simp
          rw [ha]
          refine ⟨ba, _, bc, hbb.stay HB3.out, fun h => by omega, fun k' h => ?_⟩
          obtain rfl : k0 = k' := by omega
          exact ⟨b, off, h1, (HB3.out.cell (p := ⟨b, off + (k0 * 3 + 2), none⟩) (lt_of_cell hc)).trans hc⟩
      obtain ⟨ba, bn, bc, hss, hmain, hfun⟩ := hbody
      obtain ⟨f, hf⟩ : ∃ f, p.all.getD k default = f := ⟨_, rfl⟩
      rw [hf] at e0 e1 e2 e3 t1 t2 hvf hokf hss
      have HVF := Lib.hid hvf
      have HOKF := Lib.hid hokf
      have HSS := Lib.hid hss
      have HTV := Lib.hid t1
      have HTA := Lib.hid t2
      have HLT := Lib.hid hlt
      have HMN := Lib.hid hmain
      have HFN := Lib.hid hfun
      have HCL := Lib.hid (FT.code_len p hokf)
      obtain ⟨sc, hscx⟩ : ∃ s, FT.sc p.funcs f = s := ⟨_, rfl⟩
      have HSC := Lib.hid hscx
      rw [hscx] at e0 e1 e2 e3 HTV HTA HCL
      obtain ⟨s, m, vs0, as0⟩ := sc
      simp only at e0 e1 e2 e3 HTV HTA
      have hnvl : vs0.length ≤ 9223372036854775807 := by obtain ⟨_, _, _, h1, h2⟩ := HTV.out.shape9; omega
      have hnal : as0.length ≤ 9223372036854775807 := by obtain ⟨_, _, _, h1, h2⟩ := HTA.out.shape9; omega
      obtain ⟨nv, hnv⟩ : ∃ n, vs0.length = n := ⟨_, rfl⟩
      obtain ⟨na, hna⟩ : ∃ n, as0.length = n := ⟨_, rfl⟩
      rw [hnv] at e2 HTV hnvl
      rw [hna] at e3 HTA hnal
      have HNV := Lib.hid hnv
      have HNA := Lib.hid hna
      clear hnv hna hsc hvf hokf hz hss t1 t2 hka hf hmain hfun hscx
      go_upto_region 12 with fail

      have hwr := wr_new (wr.alloc (.cells #[.string s, .int .i64 m, .slice va nv vc, .slice aa na ac] 61)) ⟨s, m, vs0, as0⟩ (.slice va nv vc) (.slice aa na ac) (.slice (some ⟨bs, so, none⟩) (1 + n1) zc)
      have hsb : ((wr.alloc (.cells #[.string s, .int .i64 m, .slice va nv vc, .slice aa na ac] 61)).alloc (.cells #[.string s, .int .i64 m, .slice va nv vc, .slice aa na ac, .slice (some ⟨bs, so, none⟩) (1 + n1) zc, .slice none 0 0] 64)).heap[wr.heap.size]? = some (.cells #[.string s, .int .i64 m, .slice va nv vc, .slice aa na ac] 61 (0, 0)) :=
        (Below.heap_alloc _ _ _ (by rw [World.size_alloc]; omega)).trans (heap_alloc_new _ _)
      have hbw : Below wr.heap.size wr ((wr.alloc (.cells #[.string s, .int .i64 m, .slice va nv vc, .slice aa na ac] 61)).alloc (.cells #[.string s, .int .i64 m, .slice va nv vc, .slice aa na ac, .slice (some ⟨bs, so, none⟩) (1 + n1) zc, .slice none 0 0] 64)) := ((Below.refl _ _).alloc (Nat.le_refl _) _).alloc (by rw [World.size_alloc]; omega) _
      have hsz : ((wr.alloc (.cells #[.string s, .int .i64 m, .slice va nv vc, .slice aa na ac] 61)).alloc (.cells #[.string s, .int .i64 m, .slice va nv vc, .slice aa na ac, .slice (some ⟨bs, so, none⟩) (1 + n1) zc, .slice none 0 0] 64)).heap.size = wr.heap.size + 2 := by rw [World.size_alloc, World.size_alloc]
      rw [World.size_alloc] at hwr
      have h3r : w3.heap.size ≤ wr.heap.size := HCK.out.below.size
      obtain ⟨W0, hW0⟩ : ∃ z, ((wr.alloc (.cells #[.string s, .int .i64 m, .slice va nv vc, .slice aa na ac] 61)).alloc (.cells #[.string s, .int .i64 m, .slice va nv vc, .slice aa na ac, .slice (some ⟨bs, so, none⟩) (1 + n1) zc, .slice none 0 0] 64)) = z := ⟨_, rfl⟩
      rw [show ((wr.alloc (.cells #[.string s, .int .i64 m, .slice va nv vc, .slice aa na ac] 61)).alloc (.cells #[.string s, .int .i64 m, .slice va nv vc, .slice aa na ac, .slice (some ⟨bs, so, none⟩) (1 + n1) zc, .slice none 0 0] 64)) = W0 from hW0] at hwr hsb hbw hsz
      rw [hW0]
      have HBW : Hid (Below wr.heap.size wr W0) := hbw
      have HB30 : Hid (Below w3.heap.size w3 W0) := HCK.out.below.trans (hbw.mono h3r)
      have HCBR : Hid (w3.heap.size = cb ∧ cb < wr.heap.size) := by
        obtain ⟨_, _, _, hcb, _⟩ := HCK.out
        exact ⟨HCB.out, lt_of_heap hcb⟩
      generalize hxq : wr.heap.size = sb at hwr hsb hsz h3r HCBR ⊢
      have HXQ := Lib.hid hxq
      generalize hfb : sb + 1 = wb at hwr ⊢
      have HWR := Lib.hid hwr
      have HSB := Lib.hid hsb
      have HFS : Hid (wb ≤ W0.heap.size) := by show _ ≤ _; omega
      have HSW : Hid (sb < wb ∧ cb < wb ∧ wr.heap.size ≤ wb) := ⟨by omega, by have := HCBR.out.2; omega, by omega⟩
      have H3F : Hid (w3.heap.size ≤ wb) := by show _ ≤ _; omega
      have HX0 := Lib.hid ((HB30.out.block _ (lt_of_heap HX3.out)).trans HX3.out)
      clear hW0 hwr hsb hbw hsz h3r hxq hfb
      have HWS : Hid (Writes w3 wb wb ⟨s, m, vs0, as0⟩ p.scopes va aa (some ⟨bs, so, none⟩) nv vc na ac (1 + n1) zc (.slice ba bn bc) f.body) :=
        wstmts_in w3 HSS.out HOKF.out.ops wb wb ⟨s, m, vs0, as0⟩ p.scopes va aa (some ⟨bs, so, none⟩) nv vc na ac (1 + n1) zc mb mn H3F.out HTV.out HTA.out HCS.out HSM3.out
      have HWD := Lib.hid (HWS.out [] W0 HB30.out HWR.out HFS.out (by have := HCL.out; simp only [List.length_nil, Nat.zero_add]; omega))
      obtain ⟨L, hL⟩ : ∃ L, ST.codeL p.scopes ⟨s, m, vs0, as0⟩ f.body 0 = L := ⟨_, rfl⟩
      have HLL := Lib.hid hL
      rw [hL] at HCL
      simp only [List.length_nil, List.nil_append] at HWD
      rw [hL] at HWD
      clear hL HWS
      cases k with
      | zero => as_aux_lemma =>
        obtain ⟨rfl, rfl, rfl⟩ := HMN.out rfl
        have x1 : W0.cell? ⟨w.heap.size, 1, none⟩ = some (.slice ba bn bc) := cell_of_heap HX0.out 1
        go_wp2_with fail
        clear x1
        refine HWD.out.mono ?_
        rintro e w5 ⟨rfl, hk5, hw5⟩
        have HK5 := Lib.hid hk5
        have HW5 := Lib.hid hw5
        have hl5 : L.length ≤ 4194304 := by have := HCL.out; omega
        have HL5 := Lib.hid hl5
        clear hk5 hw5 HWD hl5
        go_wp2_with fail
        refine (put_r wb wb ⟨s, m, vs0, as0⟩ _ _ _ L 1 0 0 _ HW5.out HL5.out).mono ?_
        rintro e w6 ⟨rfl, hk6, hw6⟩
        have HK6 : Hid (Wk wb wb W0 w6) := HK5.out.trans hk6
        have HW6 := Lib.hid hw6
        have HL6 : Hid ((L ++ [(⟨1, 0, 0⟩ : VI)]).length ≤ 4194304) := by have := HCL.out; show _ ≤ _; simp only [List.length_append, List.length_cons, List.length_nil]; omega
        clear hk6 hw6
        go_wp2_with fail
        refine (put_r wb wb ⟨s, m, vs0, as0⟩ _ _ _ (L ++ [⟨1, 0, 0⟩]) 18 0 0 _ HW6.out HL6.out).mono ?_
        rintro e w7 ⟨rfl, hk7, hw7⟩
        have HK7 : Hid (Wk wb wb W0 w7) := HK6.out.trans hk7
        obtain ⟨_, lv7, hbx7, hrow7⟩ := hw7
        have HBX7 := Lib.hid hbx7
        have hlg : ∃ n, (L ++ [(⟨1, 0, 0⟩ : VI)] ++ [(⟨18, 0, 0⟩ : VI)]).length = n := ⟨_, rfl⟩
        obtain ⟨lg, hlg⟩ := hlg
        rw [hlg] at hrow7
        obtain ⟨ga, gc, rfl⟩ := own_shape hrow7
        have HG7 := Lib.hid hrow7
        have HLG := Lib.hid hlg
        have HS7 := Lib.hid ((HK7.out.below.block sb HSW.out.1).trans HSB.out)
        obtain ⟨hbl, lv0, ls, hcb, hrow, hrest⟩ := HCK.out
        have HCR : Hid (W0.heap[cb]? = some (.cells #[lv0] 29 (0, 0))) := (HBW.out.block cb (lt_of_heap hcb)).trans hcb
        have HC7 := Lib.hid ((HK7.out.below.block cb HSW.out.2.1).trans HCR.out)
        obtain ⟨la, lc, rfl⟩ := own_shape hrow
        have HRR := Lib.hid hrow
        have HBR7 : Hid (Below wr.heap.size wr w7) := HBW.out.trans (HK7.out.below.mono HSW.out.2.2)
        have HB37 : Hid (Below w3.heap.size w3 w7) := HB30.out.trans (HK7.out.below.mono H3F.out)
        have HZ := Lib.hid (And.intro (cell_of_heap HC7.out 0) (And.intro (cell_of_heap HS7.out 0) (And.intro (cell_of_heap HS7.out 1) (And.intro (cell_of_heap HS7.out 2) (And.intro (cell_of_heap HS7.out 3) (cell_of_heap HBX7.out 5))))))
        clear hk7 hbx7 hrow7 hlg hbl hcb hrow hrest HCR HK5 HK6 HW5 HW6
        go_upto_region 17 with fail
        refine region_flow3 rfl 20 rfl (by decide +kernel) [56, 57, 58, 59, 60, 61, 62, 63, 64, 65, 66, 67, 68, 69, 70, 71, 72, 73, 74, 75] (by decide +kernel) rfl (by decide) (by simp) 18 (by decide) [0, 1, 2, 3, 4, 5, 6, 7, 8, 9, 10, 11, 12, 13, 14, 15, 16, 17] (by decide +kernel) (RB w7)
          (PhiB 17 18 (PHc [.string s, .int .i64 m, .int .i64 nv, .int .i64 na, .slice ga lg gc]) (PWc w3 w7 la lc 0 [.string s, .int .i64 m, .int .i64 nv, .int .i64 na, .slice ga lg gc]) [.pointer (some ⟨cb, 0, none⟩), .slice la 0 lc, .pointer (some ⟨sb, 0, none⟩), .string s, .pointer (some ⟨sb, 1, none⟩), .int .i64 m, .pointer (some ⟨sb, 2, none⟩), .slice va nv vc, .int .i64 nv, .pointer (some ⟨sb, 3, none⟩), .slice aa na ac, .int .i64 na, .pointer (some ⟨wb, 0, none⟩), .pointer (some ⟨wb, 0, none⟩), .pointer (some ⟨wb, 5, none⟩), .slice ga lg gc, .agg #[.string s, .int .i64 m, .int .i64 nv, .int .i64 na, .slice ga lg gc], undef, undef, .pointer (some ⟨cb, 0, none⟩)]) ?hr17 ?hs17 ?hw17 ?hl17
        case hs17 =>
          intro ix bq hix him hbE a wx hR hout hdep
          have hix' : ix = 0 ∨ ix = 1 ∨ ix = 2 ∨ ix = 3 ∨ ix = 4 ∨ ix = 5 ∨ ix = 6 ∨ ix = 7 ∨ ix = 8 ∨ ix = 9 ∨ ix = 10 ∨ ix = 11 ∨ ix = 12 ∨ ix = 13 ∨ ix = 14 ∨ ix = 15 ∨ ix = 16 ∨ ix = 17 ∨ ix = 19 := by omega
          rcases hix' with rfl | rfl | rfl | rfl | rfl | rfl | rfl | rfl | rfl | rfl | rfl | rfl | rfl | rfl | rfl | rfl | rfl | rfl | rfl
          · obtain rfl : bq = false := by
              cases bq
              · rfl
              · exact absurd (by decide) (hbE rfl)
            have HR := Lib.hid (hR rfl)
            clear hR hbE him
            have e7 := hout 7 (by decide)
            clear hout hdep
            refine op_list (by rfl) ?_
            go_wp2
            exact withK_intro ⟨_, rfl, fun _ _ _ h => h, RB.intro HR.out, PhiB.known (by decide) (by decide)⟩
          · obtain rfl : bq = false := by
              cases bq
              · rfl
              · exact absurd (by decide) (hbE rfl)
            have HR := Lib.hid (hR rfl)
            clear hR hbE him
            have e56 : a.tmps[56]? = some (.pointer (some ⟨cb, 0, none⟩)) := flow_depB hdep 0 56 (by kernel_rfl) rfl (by decide) (by decide)
            have z := cellB' HR HZ.out.1
            clear hout hdep
            refine op_list (by rfl) ?_
            go_wp2
            exact withK_intro ⟨_, rfl, fun _ _ _ h => h, RB.intro HR.out, PhiB.known (by decide) (by decide)⟩
          · obtain rfl : bq = false := by
              cases bq
              · rfl
              · exact absurd (by decide) (hbE rfl)
            have HR := Lib.hid (hR rfl)
            clear hR hbE him
            have e9 := hout 9 (by decide)
            clear hout hdep
            refine op_list (by rfl) ?_
            go_wp2
            exact withK_intro ⟨_, rfl, fun _ _ _ h => h, RB.intro HR.out, PhiB.known (by decide) (by decide)⟩
          · obtain rfl : bq = false := by
              cases bq
              · rfl
              · exact absurd (by decide) (hbE rfl)
            have HR := Lib.hid (hR rfl)
            clear hR hbE him
            have e58 : a.tmps[58]? = some (.pointer (some ⟨sb, 0, none⟩)) := flow_depB hdep 2 58 (by kernel_rfl) rfl (by decide) (by decide)
            have z := cellB' HR HZ.out.2.1
            clear hout hdep
            refine op_list (by rfl) ?_
            go_wp2
            exact withK_intro ⟨_, rfl, fun _ _ _ h => h, RB.intro HR.out, PhiB.known (by decide) (by decide)⟩
          · obtain rfl : bq = false := by
              cases bq
              · rfl
              · exact absurd (by decide) (hbE rfl)
            have HR := Lib.hid (hR rfl)
            clear hR hbE him
            have e9 := hout 9 (by decide)
            clear hout hdep
            refine op_list (by rfl) ?_
            go_wp2
            exact withK_intro ⟨_, rfl, fun _ _ _ h => h, RB.intro HR.out, PhiB.known (by decide) (by decide)⟩
          · obtain rfl : bq = false := by
              cases bq
              · rfl
              · exact absurd (by decide) (hbE rfl)
            have HR := Lib.hid (hR rfl)
            clear hR hbE him
            have e60 : a.tmps[60]? = some (.pointer (some ⟨sb, 1, none⟩)) := flow_depB hdep 4 60 (by kernel_rfl) rfl (by decide) (by decide)
            have z := cellB' HR HZ.out.2.2.1
            clear hout hdep
            refine op_list (by rfl) ?_
            go_wp2
            exact withK_intro ⟨_, rfl, fun _ _ _ h => h, RB.intro HR.out, PhiB.known (by decide) (by decide)⟩
          · obtain rfl : bq = false := by
              cases bq
              · rfl
              · exact absurd (by decide) (hbE rfl)
            have HR := Lib.hid (hR rfl)
            clear hR hbE him
            have e9 := hout 9 (by decide)
            clear hout hdep
            refine op_list (by rfl) ?_
            go_wp2
            exact withK_intro ⟨_, rfl, fun _ _ _ h => h, RB.intro HR.out, PhiB.known (by decide) (by decide)⟩
          · obtain rfl : bq = false := by
              cases bq
              · rfl
              · exact absurd (by decide) (hbE rfl)
            have HR := Lib.hid (hR rfl)
            clear hR hbE him
            have e62 : a.tmps[62]? = some (.pointer (some ⟨sb, 2, none⟩)) := flow_depB hdep 6 62 (by kernel_rfl) rfl (by decide) (by decide)
            have z := cellB' HR HZ.out.2.2.2.1
            clear hout hdep
            refine op_list (by rfl) ?_
            go_wp2
            exact withK_intro ⟨_, rfl, fun _ _ _ h => h, RB.intro HR.out, PhiB.known (by decide) (by decide)⟩
          · obtain rfl : bq = false := by
              cases bq
              · rfl
              · exact absurd (by decide) (hbE rfl)
            have HR := Lib.hid (hR rfl)
            clear hR hbE him
            have e63 : a.tmps[63]? = some (.slice va nv vc) := flow_depB hdep 7 63 (by kernel_rfl) rfl (by decide) (by decide)
            clear hout hdep
            refine op_list (by rfl) ?_
            go_wp2
            exact withK_intro ⟨_, rfl, fun _ _ _ h => h, RB.intro HR.out, PhiB.known (by decide) (by decide)⟩
          · obtain rfl : bq = false := by
              cases bq
              · rfl
              · exact absurd (by decide) (hbE rfl)
            have HR := Lib.hid (hR rfl)
            clear hR hbE him
            have e9 := hout 9 (by decide)
            clear hout hdep
            refine op_list (by rfl) ?_
            go_wp2
            exact withK_intro ⟨_, rfl, fun _ _ _ h => h, RB.intro HR.out, PhiB.known (by decide) (by decide)⟩
          · obtain rfl : bq = false := by
              cases bq
              · rfl
              · exact absurd (by decide) (hbE rfl)
            have HR := Lib.hid (hR rfl)
            clear hR hbE him
            have e65 : a.tmps[65]? = some (.pointer (some ⟨sb, 3, none⟩)) := flow_depB hdep 9 65 (by kernel_rfl) rfl (by decide) (by decide)
            have z := cellB' HR HZ.out.2.2.2.2.1
            clear hout hdep
            refine op_list (by rfl) ?_
            go_wp2
            exact withK_intro ⟨_, rfl, fun _ _ _ h => h, RB.intro HR.out, PhiB.known (by decide) (by decide)⟩
          · obtain rfl : bq = false := by
              cases bq
              · rfl
              · exact absurd (by decide) (hbE rfl)
            have HR := Lib.hid (hR rfl)
            clear hR hbE him
            have e66 : a.tmps[66]? = some (.slice aa na ac) := flow_depB hdep 10 66 (by kernel_rfl) rfl (by decide) (by decide)
            clear hout hdep
            refine op_list (by rfl) ?_
            go_wp2
            exact withK_intro ⟨_, rfl, fun _ _ _ h => h, RB.intro HR.out, PhiB.known (by decide) (by decide)⟩
          · obtain rfl : bq = false := by
              cases bq
              · rfl
              · exact absurd (by decide) (hbE rfl)
            have HR := Lib.hid (hR rfl)
            clear hR hbE him
            have e10 := hout 10 (by decide)
            clear hout hdep
            refine op_list (by rfl) ?_
            go_wp2
            exact withK_intro ⟨_, rfl, fun _ _ _ h => h, RB.intro HR.out, PhiB.known (by decide) (by decide)⟩
          · obtain rfl : bq = false := by
              cases bq
              · rfl
              · exact absurd (by decide) (hbE rfl)
            have HR := Lib.hid (hR rfl)
            clear hR hbE him
            have e68 : a.tmps[68]? = some (.pointer (some ⟨wb, 0, none⟩)) := flow_depB hdep 12 68 (by kernel_rfl) rfl (by decide) (by decide)
            clear hout hdep
            refine op_list (by rfl) ?_
            go_wp2
            exact withK_intro ⟨_, rfl, fun _ _ _ h => h, RB.intro HR.out, PhiB.known (by decide) (by decide)⟩
          · obtain rfl : bq = false := by
              cases bq
              · rfl
              · exact absurd (by decide) (hbE rfl)
            have HR := Lib.hid (hR rfl)
            clear hR hbE him
            have e69 : a.tmps[69]? = some (.pointer (some ⟨wb, 0, none⟩)) := flow_depB hdep 13 69 (by kernel_rfl) rfl (by decide) (by decide)
            clear hout hdep
            refine op_list (by rfl) ?_
            go_wp2
            exact withK_intro ⟨_, rfl, fun _ _ _ h => h, RB.intro HR.out, PhiB.known (by decide) (by decide)⟩
          · obtain rfl : bq = false := by
              cases bq
              · rfl
              · exact absurd (by decide) (hbE rfl)
            have HR := Lib.hid (hR rfl)
            clear hR hbE him
            have e70 : a.tmps[70]? = some (.pointer (some ⟨wb, 5, none⟩)) := flow_depB hdep 14 70 (by kernel_rfl) rfl (by decide) (by decide)
            have z := cellB' HR HZ.out.2.2.2.2.2
            clear hout hdep
            refine op_list (by rfl) ?_
            try simp only [List.getElem_toArray, List.getElem_cons_succ, List.getElem_cons_zero]
            go_wp2
            exact withK_intro ⟨_, rfl, fun _ _ _ h => h, RB.intro HR.out, PhiB.known (by decide) (by decide)⟩
          · obtain rfl : bq = false := by
              cases bq
              · rfl
              · exact absurd (by decide) (hbE rfl)
            have HR := Lib.hid (hR rfl)
            clear hR hbE him
            have e59 : a.tmps[59]? = some (.string s) := flow_depB hdep 3 59 (by kernel_rfl) rfl (by decide) (by decide)
            have e61 : a.tmps[61]? = some (.int .i64 m) := flow_depB hdep 5 61 (by kernel_rfl) rfl (by decide) (by decide)
            have e64 : a.tmps[64]? = some (.int .i64 nv) := flow_depB hdep 8 64 (by kernel_rfl) rfl (by decide) (by decide)
            have e67 : a.tmps[67]? = some (.int .i64 na) := flow_depB hdep 11 67 (by kernel_rfl) rfl (by decide) (by decide)
            have e71 : a.tmps[71]? = some (.slice ga lg gc) := flow_depB hdep 15 71 (by kernel_rfl) rfl (by decide) (by decide)
            clear hout hdep
            refine op_list (by rfl) ?_
            try simp only [List.getElem_toArray, List.getElem_cons_succ, List.getElem_cons_zero]
            go_wp2
            exact withK_intro ⟨_, rfl, fun _ _ _ h => h, RB.intro HR.out, PhiB.known (by decide) (by decide)⟩
          · obtain rfl : bq = false := by
              cases bq
              · rfl
              · exact absurd (by decide) (hbE rfl)
            have HR := Lib.hid (hR rfl)
            clear hR hbE him
            have e72 : a.tmps[72]? = some (.agg #[.string s, .int .i64 m, .int .i64 nv, .int .i64 na, .slice ga lg gc]) := flow_depB hdep 16 72 (by kernel_rfl) rfl (by decide) (by decide)
            clear hout hdep
            refine op_list (by rfl) ?_
            have e72' : a.eval (.tmp 72) = .agg #[.string s, .int .i64 m, .int .i64 nv, .int .i64 na, .slice ga lg gc] := by simp [Act.eval, Array.getD_eq_getD_getElem?, e72]
            refine Great.wpList_buildSliceTo rfl 27 41 1 #[(0, .tmp 72)] rfl wx.heap.size rfl (some 73) rfl Tryz.underlying27 #[.string s, .int .i64 m, .int .i64 nv, .int .i64 na, .slice ga lg gc] ?hbs ?_
            case hbs =>
              simp only [List.map_toArray, List.map_cons, List.map_nil, e72']
              kernel_rfl
            go_wp2
            exact withK_intro ⟨_, rfl, fun j u hj h => h.stay (fun hh => hh.alloc _), RB.intro (HR.out.alloc HR.out.size _), PhiB.made (by decide) (PHc.new _ _)⟩
          · have HR := Lib.hid hR
            clear hR hbE him
            have e7 := hout 7 (by decide)
            clear hout hdep
            refine op_list (by rfl) ?_
            try simp only [List.getElem_toArray, List.getElem_cons_succ, List.getElem_cons_zero]
            go_wp2
            exact withK_intro ⟨_, rfl, fun _ _ _ h => h, HR.out, PhiB.known (by decide) (by decide)⟩
        case hw17 =>
          intro a wx hR hout hdep
          have HR := Lib.hid (hR rfl)
          clear hR
          obtain ⟨v73, e73, hφs⟩ := hdep 17 73 (by kernel_rfl) rfl
          have e57 : a.tmps[57]? = some (.slice la 0 lc) := flow_depB hdep 1 57 (by kernel_rfl) rfl (by decide) (by decide)
          have hps := hφs.2.1 rfl rfl
          obtain ⟨g, rfl, hgh⟩ := hps
          clear hφs hout hdep
          obtain ⟨iS, hiS, hS0, hS1, hS2⟩ := info_parts infoFn9
          have hxs := own_hold9 (own_hold9 HRR.out HBR7.out) HR.out
          refine op_list (by rfl) ?_
          refine wpList_append_own _ rfl _ _ 27 rfl w3.heap.size 41 iS _ 5 64 Tryz.underlying27 hiS hS0 hS1 hS2 rfl (by decide) (.slice la 0 lc) _ _ (by simp [Act.eval, Array.getD_eq_getD_getElem?, e57]) hxs ⟨g, 0, none⟩ 1 1 [.string s, .int .i64 m, .int .i64 nv, .int .i64 na, .slice ga lg gc] (by simp [Act.eval, Array.getD_eq_getD_getElem?, e73]) rfl
            (fun i u hu => by rw [addr_add0, Nat.zero_add, cell_of_heap hgh, ← hu]; simp) (by intro u hu; simp at hu; rcases hu with rfl | rfl | rfl | rfl | rfl <;> rfl) (by unfold maxLen; have := HLT.out; omega) (by have := HLT.out; omega) (Nat.le_trans HB37.out.size HR.out.size) ?_
          intro v' w8 hown' hgrow _
          obtain ⟨g', cap', rfl⟩ := ownsRow_succ' hown'
          have HPN : Hid (PWc w3 w7 la lc 0 [.string s, .int .i64 m, .int .i64 nv, .int .i64 na, .slice ga lg gc] (.slice (some ⟨g', 0, none⟩) (0 + 1) cap') w8) := ⟨_, g', cap', rfl, HR.out, ⟨_, hxs, hown'⟩, hgrow⟩
          clear hown' hgrow hxs hgh e73 e57 hiS hS0 hS1 hS2
          go_wp2
          exact withK_intro ⟨_, rfl, fun j u hj hne h => h.turn hne, RB.done, PhiB.wrote (by decide) HPN.out⟩
        case hl17 =>
          intro vs wx hR hφ
          clear hR
          have hpw := (hφ 18 (by omega)).2.2 rfl rfl
          obtain ⟨wy, g', cap', hv18, hby, ⟨xs, o1, o2⟩, hgr⟩ := hpw
          rw [fill_congr _ [56, 57, 58, 59, 60, 61, 62, 63, 64, 65, 66, 67, 68, 69, 70, 71, 72, 73, 74, 75] vs (fun jx => ([.pointer (some ⟨cb, 0, none⟩), .slice la 0 lc, .pointer (some ⟨sb, 0, none⟩), .string s, .pointer (some ⟨sb, 1, none⟩), .int .i64 m, .pointer (some ⟨sb, 2, none⟩), .slice va nv vc, .int .i64 nv, .pointer (some ⟨sb, 3, none⟩), .slice aa na ac, .int .i64 na, .pointer (some ⟨wb, 0, none⟩), .pointer (some ⟨wb, 0, none⟩), .pointer (some ⟨wb, 5, none⟩), .slice ga lg gc, .agg #[.string s, .int .i64 m, .int .i64 nv, .int .i64 na, .slice ga lg gc], vs 17, .slice (some ⟨g', 0, none⟩) (0 + 1) cap', .pointer (some ⟨cb, 0, none⟩)] : List Value).getD jx undef) (fun jx hj => by
            by_cases e : jx = 18
            · subst e; assumption
            · by_cases e2 : jx = 17
              · subst e2; rfl
              · have hj' : jx = 0 ∨ jx = 1 ∨ jx = 2 ∨ jx = 3 ∨ jx = 4 ∨ jx = 5 ∨ jx = 6 ∨ jx = 7 ∨ jx = 8 ∨ jx = 9 ∨ jx = 10 ∨ jx = 11 ∨ jx = 12 ∨ jx = 13 ∨ jx = 14 ∨ jx = 15 ∨ jx = 16 ∨ jx = 19 := by simp at hj; omega
                rw [(hφ jx hj).1 e2 e]
                rcases hj' with rfl | rfl | rfl | rfl | rfl | rfl | rfl | rfl | rfl | rfl | rfl | rfl | rfl | rfl | rfl | rfl | rfl | rfl <;> rfl)]
          clear hφ
          rw [hv18] at o2
          have HN7 := Lib.hid (hby.mono (Nat.le_refl _))
          have hcy : wy.heap[cb]? = some (.cells #[.slice la 0 lc] 29 (0, 0)) := (hby.block cb (lt_of_heap HC7.out)).trans HC7.out
          have hcx : wx.heap[cb]? = some (.cells #[.slice la 0 lc] 29 (0, 0)) := (hgr.block cb (lt_of_heap hcy) (own_ne_box o1 hcy (by decide))).trans hcy
          have HCN : Hid (CS w3 cb p.code (0 + 1) (wx.setCell ⟨cb, 0, none⟩ (.slice (some ⟨g', 0, none⟩) (0 + 1) cap'))) := by
            have hsx := HSC.out
            have hpc : f.code p = L ++ [⟨1, 0, 0⟩] ++ [⟨18, 0, 0⟩] := by unfold FT.code; rw [hsx, HLL.out]
            have hs0 : f.name = s := congrArg SC.name hsx
            have hs1 : (f.params.length : Int) = m := congrArg SC.params hsx
            have hs2 : (f.found p.funcs).vars = vs0 := congrArg SC.vars hsx
            have hs3 : (f.found p.funcs).arrays = as0 := congrArg SC.arrays hsx
            refine CS.next (f := FT.vf p f) (x := .slice ga lg gc) HCK.out (by have := HCBR.out; omega) (HBR7.out.trans (hby.mono HBR7.out.size)) hcy HVF.out ?_ hgr ⟨xs, o1, ?_⟩
            · show wy.ownsRow w3.heap.size 46 3 (.slice ga lg gc) (f.code p).length (insR (f.code p))
              rw [hpc, HLG.out]
              exact own_lower (own_hold9 HG7.out hby) H3F.out
            · have e : [Value.string (FT.vf p f).name, .int .i64 (FT.vf p f).params, .int .i64 (FT.vf p f).vars, .int .i64 (FT.vf p f).arrays, .slice ga lg gc] = [.string s, .int .i64 m, .int .i64 nv, .int .i64 na, .slice ga lg gc] := by
                show [Value.string f.name, .int .i64 (f.params.length : Int), .int .i64 ((f.found p.funcs).vars.length : Int), .int .i64 ((f.found p.funcs).arrays.length : Int), .slice ga lg gc] = _
                rw [hs0, hs1, hs2, hs3, HNV.out, HNA.out]
              rw [e]; exact o2
          refine op_store rfl rfl rfl 27 (.tmp 75) (.tmp 74) rfl ⟨cb, 0, none⟩ (.slice (some ⟨g', 0, none⟩) (0 + 1) cap') (eval_fill2 _ _ _ 19 75 (by decide) rfl rfl) (eval_fill2 _ _ _ 18 74 (by decide) rfl rfl) (run_store_slice _ _ _ _ (by kernel_rfl) _ _ _ _ (cell_of_heap hcx 0) (free_of_heap hcx 0)) ?_
          clear o1 o2 hgr hby hcy hcx hv18 HN7
          generalize vs 17 = v17
          generalize wx.setCell ⟨cb, 0, none⟩ (.slice (some ⟨g', 0, none⟩) (0 + 1) cap') = w9 at HCN ⊢
          simp only [fill, fillA, List.getD_cons_zero, List.getD_cons_succ, Nat.reduceAdd, List.setIfInBounds_toArray, List.set_cons_succ, List.set_cons_zero]
          go_wp2_with fail
          go_roundw
          case rel => exact ⟨0 + 1, rfl, by omega, HCN.out⟩
          case measure => simp [intOf]; try omega
        case hr17 => exact RB.intro (Below.refl _ _).drew
      | succ k0 => as_aux_lemma =>
        obtain ⟨q, o, rfl, hcq⟩ := HFN.out k0 rfl
        have x0 : W0.cell? ⟨w.heap.size, 0, none⟩ = some (.slice (some ⟨q, o, none⟩) n1 k1) := cell_of_heap HX0.out 0
        have x2 : W0.cell? ⟨q, o + k0 * 3 + 2, none⟩ = some (.slice ba bn bc) := (HB30.out.cell (p := ⟨q, o + k0 * 3 + 2, none⟩) (lt_of_cell hcq)).trans hcq
        have hk0 : (k0 : Int) < n1 := by omega
        clear hcq
        go_wp2_with fail
        clear x0 x2
        refine HWD.out.mono ?_
        rintro e w5 ⟨rfl, hk5, hw5⟩
        have HK5 := Lib.hid hk5
        have HW5 := Lib.hid hw5
        have hl5 : L.length ≤ 4194304 := by have := HCL.out; omega
        have HL5 := Lib.hid hl5
        clear hk5 hw5 HWD hl5
        go_wp2_with fail
        refine (put_r wb wb ⟨s, m, vs0, as0⟩ _ _ _ L 1 0 0 _ HW5.out HL5.out).mono ?_
        rintro e w6 ⟨rfl, hk6, hw6⟩
        have HK6 : Hid (Wk wb wb W0 w6) := HK5.out.trans hk6
        have HW6 := Lib.hid hw6
        have HL6 : Hid ((L ++ [(⟨1, 0, 0⟩ : VI)]).length ≤ 4194304) := by have := HCL.out; show _ ≤ _; simp only [List.length_append, List.length_cons, List.length_nil]; omega
        clear hk6 hw6
        go_wp2_with fail
        refine (put_r wb wb ⟨s, m, vs0, as0⟩ _ _ _ (L ++ [⟨1, 0, 0⟩]) 18 0 0 _ HW6.out HL6.out).mono ?_
        rintro e w7 ⟨rfl, hk7, hw7⟩
        have HK7 : Hid (Wk wb wb W0 w7) := HK6.out.trans hk7
        obtain ⟨_, lv7, hbx7, hrow7⟩ := hw7
        have HBX7 := Lib.hid hbx7
        have hlg : ∃ n, (L ++ [(⟨1, 0, 0⟩ : VI)] ++ [(⟨18, 0, 0⟩ : VI)]).length = n := ⟨_, rfl⟩
        obtain ⟨lg, hlg⟩ := hlg
        rw [hlg] at hrow7
        obtain ⟨ga, gc, rfl⟩ := own_shape hrow7
        have HG7 := Lib.hid hrow7
        have HLG := Lib.hid hlg
        have HS7 := Lib.hid ((HK7.out.below.block sb HSW.out.1).trans HSB.out)
        obtain ⟨hbl, lv0, ls, hcb, hrow, hrest⟩ := HCK.out
        have HCR : Hid (W0.heap[cb]? = some (.cells #[lv0] 29 (0, 0))) := (HBW.out.block cb (lt_of_heap hcb)).trans hcb
        have HC7 := Lib.hid ((HK7.out.below.block cb HSW.out.2.1).trans HCR.out)
        obtain ⟨la, lc, rfl⟩ := own_shape hrow
        have HRR := Lib.hid hrow
        have HBR7 : Hid (Below wr.heap.size wr w7) := HBW.out.trans (HK7.out.below.mono HSW.out.2.2)
        have HB37 : Hid (Below w3.heap.size w3 w7) := HB30.out.trans (HK7.out.below.mono H3F.out)
        have HZ := Lib.hid (And.intro (cell_of_heap HC7.out 0) (And.intro (cell_of_heap HS7.out 0) (And.intro (cell_of_heap HS7.out 1) (And.intro (cell_of_heap HS7.out 2) (And.intro (cell_of_heap HS7.out 3) (cell_of_heap HBX7.out 5))))))
        clear hk7 hbx7 hrow7 hlg hbl hcb hrow hrest HCR HK5 HK6 HW5 HW6
        go_upto_region 17 with fail
        refine region_flow3 rfl 20 rfl (by decide +kernel) [56, 57, 58, 59, 60, 61, 62, 63, 64, 65, 66, 67, 68, 69, 70, 71, 72, 73, 74, 75] (by decide +kernel) rfl (by decide) (by simp) 18 (by decide) [0, 1, 2, 3, 4, 5, 6, 7, 8, 9, 10, 11, 12, 13, 14, 15, 16, 17] (by decide +kernel) (RB w7)
          (PhiB 17 18 (PHc [.string s, .int .i64 m, .int .i64 nv, .int .i64 na, .slice ga lg gc]) (PWc w3 w7 la lc (k0 + 1) [.string s, .int .i64 m, .int .i64 nv, .int .i64 na, .slice ga lg gc]) [.pointer (some ⟨cb, 0, none⟩), .slice la (k0 + 1) lc, .pointer (some ⟨sb, 0, none⟩), .string s, .pointer (some ⟨sb, 1, none⟩), .int .i64 m, .pointer (some ⟨sb, 2, none⟩), .slice va nv vc, .int .i64 nv, .pointer (some ⟨sb, 3, none⟩), .slice aa na ac, .int .i64 na, .pointer (some ⟨wb, 0, none⟩), .pointer (some ⟨wb, 0, none⟩), .pointer (some ⟨wb, 5, none⟩), .slice ga lg gc, .agg #[.string s, .int .i64 m, .int .i64 nv, .int .i64 na, .slice ga lg gc], undef, undef, .pointer (some ⟨cb, 0, none⟩)]) ?hr17 ?hs17 ?hw17 ?hl17
        case hs17 =>
          intro ix bq hix him hbE a wx hR hout hdep
          have hix' : ix = 0 ∨ ix = 1 ∨ ix = 2 ∨ ix = 3 ∨ ix = 4 ∨ ix = 5 ∨ ix = 6 ∨ ix = 7 ∨ ix = 8 ∨ ix = 9 ∨ ix = 10 ∨ ix = 11 ∨ ix = 12 ∨ ix = 13 ∨ ix = 14 ∨ ix = 15 ∨ ix = 16 ∨ ix = 17 ∨ ix = 19 := by omega
          rcases hix' with rfl | rfl | rfl | rfl | rfl | rfl | rfl | rfl | rfl | rfl | rfl | rfl | rfl | rfl | rfl | rfl | rfl | rfl | rfl
          · obtain rfl : bq = false := by
              cases bq
              · rfl
              · exact absurd (by decide) (hbE rfl)
            have HR := Lib.hid (hR rfl)
            clear hR hbE him
            have e7 := hout 7 (by decide)
            clear hout hdep
            refine op_list (by rfl) ?_
            go_wp2
            exact withK_intro ⟨_, rfl, fun _ _ _ h => h, RB.intro HR.out, PhiB.known (by decide) (by decide)⟩
          · obtain rfl : bq = false := by
              cases bq
              · rfl
              · exact absurd (by decide) (hbE rfl)
            have HR := Lib.hid (hR rfl)
            clear hR hbE him
            have e56 : a.tmps[56]? = some (.pointer (some ⟨cb, 0, none⟩)) := flow_depB hdep 0 56 (by kernel_rfl) rfl (by decide) (by decide)
            have z := cellB' HR HZ.out.1
            clear hout hdep
            refine op_list (by rfl) ?_
            go_wp2
            exact withK_intro ⟨_, rfl, fun _ _ _ h => h, RB.intro HR.out, PhiB.known (by decide) (by decide)⟩
          · obtain rfl : bq = false := by
              cases bq
              · rfl
              · exact absurd (by decide) (hbE rfl)
            have HR := Lib.hid (hR rfl)
            clear hR hbE him
            have e9 := hout 9 (by decide)
            clear hout hdep
            refine op_list (by rfl) ?_
            go_wp2
            exact withK_intro ⟨_, rfl, fun _ _ _ h => h, RB.intro HR.out, PhiB.known (by decide) (by decide)⟩
          · obtain rfl : bq = false := by
              cases bq
              · rfl
              · exact absurd (by decide) (hbE rfl)
            have HR := Lib.hid (hR rfl)
            clear hR hbE him
            have e58 : a.tmps[58]? = some (.pointer (some ⟨sb, 0, none⟩)) := flow_depB hdep 2 58 (by kernel_rfl) rfl (by decide) (by decide)
            have z := cellB' HR HZ.out.2.1
            clear hout hdep
            refine op_list (by rfl) ?_
            go_wp2
            exact withK_intro ⟨_, rfl, fun _ _ _ h => h, RB.intro HR.out, PhiB.known (by decide) (by decide)⟩
          · obtain rfl : bq = false := by
              cases bq
              · rfl
              · exact absurd (by decide) (hbE rfl)
            have HR := Lib.hid (hR rfl)
            clear hR hbE him
            have e9 := hout 9 (by decide)
            clear hout hdep
            refine op_list (by rfl) ?_
            go_wp2
            exact withK_intro ⟨_, rfl, fun _ _ _ h => h, RB.intro HR.out, PhiB.known (by decide) (by decide)⟩
          · obtain rfl : bq = false := by
              cases bq
              · rfl
              · exact absurd (by decide) (hbE rfl)
            have HR := Lib.hid (hR rfl)
            clear hR hbE him
            have e60 : a.tmps[60]? = some (.pointer (some ⟨sb, 1, none⟩)) := flow_depB hdep 4 60 (by kernel_rfl) rfl (by decide) (by decide)
            have z := cellB' HR HZ.out.2.2.1
            clear hout hdep
            refine op_list (by rfl) ?_
            go_wp2
            exact withK_intro ⟨_, rfl, fun _ _ _ h => h, RB.intro HR.out, PhiB.known (by decide) (by decide)⟩
          · obtain rfl : bq = false := by
              cases bq
              · rfl
              · exact absurd (by decide) (hbE rfl)
            have HR := Lib.hid (hR rfl)
            clear hR hbE him
            have e9 := hout 9 (by decide)
            clear hout hdep
            refine op_list (by rfl) ?_
            go_wp2
            exact withK_intro ⟨_, rfl, fun _ _ _ h => h, RB.intro HR.out, PhiB.known (by decide) (by decide)⟩
          · obtain rfl : bq = false := by
              cases bq
              · rfl
              · exact absurd (by decide) (hbE rfl)
            have HR := Lib.hid (hR rfl)
            clear hR hbE him
            have e62 : a.tmps[62]? = some (.pointer (some ⟨sb, 2, none⟩)) := flow_depB hdep 6 62 (by kernel_rfl) rfl (by decide) (by decide)
            have z := cellB' HR HZ.out.2.2.2.1
            clear hout hdep
            refine op_list (by rfl) ?_
            go_wp2
            exact withK_intro ⟨_, rfl, fun _ _ _ h => h, RB.intro HR.out, PhiB.known (by decide) (by decide)⟩
          · obtain rfl : bq = false := by
              cases bq
              · rfl
              · exact absurd (by decide) (hbE rfl)
            have HR := Lib.hid (hR rfl)
            clear hR hbE him
            have e63 : a.tmps[63]? = some (.slice va nv vc) := flow_depB hdep 7 63 (by kernel_rfl) rfl (by decide) (by decide)
            clear hout hdep
            refine op_list (by rfl) ?_
            go_wp2
            exact withK_intro ⟨_, rfl, fun _ _ _ h => h, RB.intro HR.out, PhiB.known (by decide) (by decide)⟩
          · obtain rfl : bq = false := by
              cases bq
              · rfl
              · exact absurd (by decide) (hbE rfl)
            have HR := Lib.hid (hR rfl)
            clear hR hbE him
            have e9 := hout 9 (by decide)
            clear hout hdep
            refine op_list (by rfl) ?_
            go_wp2
            exact withK_intro ⟨_, rfl, fun _ _ _ h => h, RB.intro HR.out, PhiB.known (by decide) (by decide)⟩
          · obtain rfl : bq = false := by
              cases bq
              · rfl
              · exact absurd (by decide) (hbE rfl)
            have HR := Lib.hid (hR rfl)
            clear hR hbE him
            have e65 : a.tmps[65]? = some (.pointer (some ⟨sb, 3, none⟩)) := flow_depB hdep 9 65 (by kernel_rfl) rfl (by decide) (by decide)
            have z := cellB' HR HZ.out.2.2.2.2.1
            clear hout hdep
            refine op_list (by rfl) ?_
            go_wp2
            exact withK_intro ⟨_, rfl, fun _ _ _ h => h, RB.intro HR.out, PhiB.known (by decide) (by decide)⟩
          · obtain rfl : bq = false := by
              cases bq
              · rfl
              · exact absurd (by decide) (hbE rfl)
            have HR := Lib.hid (hR rfl)
            clear hR hbE him
            have e66 : a.tmps[66]? = some (.slice aa na ac) := flow_depB hdep 10 66 (by kernel_rfl) rfl (by decide) (by decide)
            clear hout hdep
            refine op_list (by rfl) ?_
            go_wp2
            exact withK_intro ⟨_, rfl, fun _ _ _ h => h, RB.intro HR.out, PhiB.known (by decide) (by decide)⟩
          · obtain rfl : bq = false := by
              cases bq
              · rfl
              · exact absurd (by decide) (hbE rfl)
            have HR := Lib.hid (hR rfl)
            clear hR hbE him
            have e10 := hout 10 (by decide)
            clear hout hdep
            refine op_list (by rfl) ?_
            go_wp2
            exact withK_intro ⟨_, rfl, fun _ _ _ h => h, RB.intro HR.out, PhiB.known (by decide) (by decide)⟩
          · obtain rfl : bq = false := by
              cases bq
              · rfl
              · exact absurd (by decide) (hbE rfl)
            have HR := Lib.hid (hR rfl)
            clear hR hbE him
            have e68 : a.tmps[68]? = some (.pointer (some ⟨wb, 0, none⟩)) := flow_depB hdep 12 68 (by kernel_rfl) rfl (by decide) (by decide)
            clear hout hdep
            refine op_list (by rfl) ?_
            go_wp2
            exact withK_intro ⟨_, rfl, fun _ _ _ h => h, RB.intro HR.out, PhiB.known (by decide) (by decide)⟩
          · obtain rfl : bq = false := by
              cases bq
              · rfl
              · exact absurd (by decide) (hbE rfl)
            have HR := Lib.hid (hR rfl)
            clear hR hbE him
            have e69 : a.tmps[69]? = some (.pointer (some ⟨wb, 0, none⟩)) := flow_depB hdep 13 69 (by kernel_rfl) rfl (by decide) (by decide)
            clear hout hdep
            refine op_list (by rfl) ?_
            go_wp2
            exact withK_intro ⟨_, rfl, fun _ _ _ h => h, RB.intro HR.out, PhiB.known (by decide) (by decide)⟩
          · obtain rfl : bq = false := by
              cases bq
              · rfl
              · exact absurd (by decide) (hbE rfl)
            have HR := Lib.hid (hR rfl)
            clear hR hbE him
            have e70 : a.tmps[70]? = some (.pointer (some ⟨wb, 5, none⟩)) := flow_depB hdep 14 70 (by kernel_rfl) rfl (by decide) (by decide)
            have z := cellB' HR HZ.out.2.2.2.2.2
            clear hout hdep
            refine op_list (by rfl) ?_
            try simp only [List.getElem_toArray, List.getElem_cons_succ, List.getElem_cons_zero]
            go_wp2
            exact withK_intro ⟨_, rfl, fun _ _ _ h => h, RB.intro HR.out, PhiB.known (by decide) (by decide)⟩
          · obtain rfl : bq = false := by
              cases bq
              · rfl
              · exact absurd (by decide) (hbE rfl)
            have HR := Lib.hid (hR rfl)
            clear hR hbE him
            have e59 : a.tmps[59]? = some (.string s) := flow_depB hdep 3 59 (by kernel_rfl) rfl (by decide) (by decide)
            have e61 : a.tmps[61]? = some (.int .i64 m) := flow_depB hdep 5 61 (by kernel_rfl) rfl (by decide) (by decide)
            have e64 : a.tmps[64]? = some (.int .i64 nv) := flow_depB hdep 8 64 (by kernel_rfl) rfl (by decide) (by decide)
            have e67 : a.tmps[67]? = some (.int .i64 na) := flow_depB hdep 11 67 (by kernel_rfl) rfl (by decide) (by decide)
            have e71 : a.tmps[71]? = some (.slice ga lg gc) := flow_depB hdep 15 71 (by kernel_rfl) rfl (by decide) (by decide)
            clear hout hdep
            refine op_list (by rfl) ?_
            try simp only [List.getElem_toArray, List.getElem_cons_succ, List.getElem_cons_zero]
            go_wp2
            exact withK_intro ⟨_, rfl, fun _ _ _ h => h, RB.intro HR.out, PhiB.known (by decide) (by decide)⟩
          · obtain rfl : bq = false := by
              cases bq
              · rfl
              · exact absurd (by decide) (hbE rfl)
            have HR := Lib.hid (hR rfl)
            clear hR hbE him
            have e72 : a.tmps[72]? = some (.agg #[.string s, .int .i64 m, .int .i64 nv, .int .i64 na, .slice ga lg gc]) := flow_depB hdep 16 72 (by kernel_rfl) rfl (by decide) (by decide)
            clear hout hdep
            refine op_list (by rfl) ?_
            have e72' : a.eval (.tmp 72) = .agg #[.string s, .int .i64 m, .int .i64 nv, .int .i64 na, .slice ga lg gc] := by simp [Act.eval, Array.getD_eq_getD_getElem?, e72]
            refine Great.wpList_buildSliceTo rfl 27 41 1 #[(0, .tmp 72)] rfl wx.heap.size rfl (some 73) rfl Tryz.underlying27 #[.string s, .int .i64 m, .int .i64 nv, .int .i64 na, .slice ga lg gc] ?hbs ?_
            case hbs =>
              simp only [List.map_toArray, List.map_cons, List.map_nil, e72']
              kernel_rfl
            go_wp2
            exact withK_intro ⟨_, rfl, fun j u hj h => h.stay (fun hh => hh.alloc _), RB.intro (HR.out.alloc HR.out.size _), PhiB.made (by decide) (PHc.new _ _)⟩
          · have HR := Lib.hid hR
            clear hR hbE him
            have e7 := hout 7 (by decide)
            clear hout hdep
            refine op_list (by rfl) ?_
            try simp only [List.getElem_toArray, List.getElem_cons_succ, List.getElem_cons_zero]
            go_wp2
            exact withK_intro ⟨_, rfl, fun _ _ _ h => h, HR.out, PhiB.known (by decide) (by decide)⟩
        case hw17 =>
          intro a wx hR hout hdep
          have HR := Lib.hid (hR rfl)
          clear hR
          obtain ⟨v73, e73, hφs⟩ := hdep 17 73 (by kernel_rfl) rfl
          have e57 : a.tmps[57]? = some (.slice la (k0 + 1) lc) := flow_depB hdep 1 57 (by kernel_rfl) rfl (by decide) (by decide)
          have hps := hφs.2.1 rfl rfl
          obtain ⟨g, rfl, hgh⟩ := hps
          clear hφs hout hdep
          obtain ⟨iS, hiS, hS0, hS1, hS2⟩ := info_parts infoFn9
          have hxs := own_hold9 (own_hold9 HRR.out HBR7.out) HR.out
          refine op_list (by rfl) ?_
          refine wpList_append_own _ rfl _ _ 27 rfl w3.heap.size 41 iS _ 5 64 Tryz.underlying27 hiS hS0 hS1 hS2 rfl (by decide) (.slice la (k0 + 1) lc) _ _ (by simp [Act.eval, Array.getD_eq_getD_getElem?, e57]) hxs ⟨g, 0, none⟩ 1 1 [.string s, .int .i64 m, .int .i64 nv, .int .i64 na, .slice ga lg gc] (by simp [Act.eval, Array.getD_eq_getD_getElem?, e73]) rfl
            (fun i u hu => by rw [addr_add0, Nat.zero_add, cell_of_heap hgh, ← hu]; simp) (by intro u hu; simp at hu; rcases hu with rfl | rfl | rfl | rfl | rfl <;> rfl) (by unfold maxLen; have := HLT.out; omega) (by have := HLT.out; omega) (Nat.le_trans HB37.out.size HR.out.size) ?_
          intro v' w8 hown' hgrow _
          obtain ⟨g', cap', rfl⟩ := ownsRow_succ' hown'
          have HPN : Hid (PWc w3 w7 la lc (k0 + 1) [.string s, .int .i64 m, .int .i64 nv, .int .i64 na, .slice ga lg gc] (.slice (some ⟨g', 0, none⟩) ((k0 + 1) + 1) cap') w8) := ⟨_, g', cap', rfl, HR.out, ⟨_, hxs, hown'⟩, hgrow⟩
          clear hown' hgrow hxs hgh e73 e57 hiS hS0 hS1 hS2
          go_wp2
          exact withK_intro ⟨_, rfl, fun j u hj hne h => h.turn hne, RB.done, PhiB.wrote (by decide) HPN.out⟩
        case hl17 =>
          intro vs wx hR hφ
          clear hR
          have hpw := (hφ 18 (by omega)).2.2 rfl rfl
          obtain ⟨wy, g', cap', hv18, hby, ⟨xs, o1, o2⟩, hgr⟩ := hpw
          rw [fill_congr _ [56, 57, 58, 59, 60, 61, 62, 63, 64, 65, 66, 67, 68, 69, 70, 71, 72, 73, 74, 75] vs (fun jx => ([.pointer (some ⟨cb, 0, none⟩), .slice la (k0 + 1) lc, .pointer (some ⟨sb, 0, none⟩), .string s, .pointer (some ⟨sb, 1, none⟩), .int .i64 m, .pointer (some ⟨sb, 2, none⟩), .slice va nv vc, .int .i64 nv, .pointer (some ⟨sb, 3, none⟩), .slice aa na ac, .int .i64 na, .pointer (some ⟨wb, 0, none⟩), .pointer (some ⟨wb, 0, none⟩), .pointer (some ⟨wb, 5, none⟩), .slice ga lg gc, .agg #[.string s, .int .i64 m, .int .i64 nv, .int .i64 na, .slice ga lg gc], vs 17, .slice (some ⟨g', 0, none⟩) ((k0 + 1) + 1) cap', .pointer (some ⟨cb, 0, none⟩)] : List Value).getD jx undef) (fun jx hj => by
            by_cases e : jx = 18
            · subst e; assumption
            · by_cases e2 : jx = 17
              · subst e2; rfl
              · have hj' : jx = 0 ∨ jx = 1 ∨ jx = 2 ∨ jx = 3 ∨ jx = 4 ∨ jx = 5 ∨ jx = 6 ∨ jx = 7 ∨ jx = 8 ∨ jx = 9 ∨ jx = 10 ∨ jx = 11 ∨ jx = 12 ∨ jx = 13 ∨ jx = 14 ∨ jx = 15 ∨ jx = 16 ∨ jx = 19 := by simp at hj; omega
                rw [(hφ jx hj).1 e2 e]
                rcases hj' with rfl | rfl | rfl | rfl | rfl | rfl | rfl | rfl | rfl | rfl | rfl | rfl | rfl | rfl | rfl | rfl | rfl | rfl <;> rfl)]
          clear hφ
          rw [hv18] at o2
          have HN7 := Lib.hid (hby.mono (Nat.le_refl _))
          have hcy : wy.heap[cb]? = some (.cells #[.slice la (k0 + 1) lc] 29 (0, 0)) := (hby.block cb (lt_of_heap HC7.out)).trans HC7.out
          have hcx : wx.heap[cb]? = some (.cells #[.slice la (k0 + 1) lc] 29 (0, 0)) := (hgr.block cb (lt_of_heap hcy) (own_ne_box o1 hcy (by decide))).trans hcy
          have HCN : Hid (CS w3 cb p.code ((k0 + 1) + 1) (wx.setCell ⟨cb, 0, none⟩ (.slice (some ⟨g', 0, none⟩) ((k0 + 1) + 1) cap'))) := by
            have hsx := HSC.out
            have hpc : f.code p = L ++ [⟨1, 0, 0⟩] ++ [⟨18, 0, 0⟩] := by unfold FT.code; rw [hsx, HLL.out]
            have hs0 : f.name = s := congrArg SC.name hsx
            have hs1 : (f.params.length : Int) = m := congrArg SC.params hsx
            have hs2 : (f.found p.funcs).vars = vs0 := congrArg SC.vars hsx
            have hs3 : (f.found p.funcs).arrays = as0 := congrArg SC.arrays hsx
            refine CS.next (f := FT.vf p f) (x := .slice ga lg gc) HCK.out (by have := HCBR.out; omega) (HBR7.out.trans (hby.mono HBR7.out.size)) hcy HVF.out ?_ hgr ⟨xs, o1, ?_⟩
            · show wy.ownsRow w3.heap.size 46 3 (.slice ga lg gc) (f.code p).length (insR (f.code p))
              rw [hpc, HLG.out]
              exact own_lower (own_hold9 HG7.out hby) H3F.out
            · have e : [Value.string (FT.vf p f).name, .int .i64 (FT.vf p f).params, .int .i64 (FT.vf p f).vars, .int .i64 (FT.vf p f).arrays, .slice ga lg gc] = [.string s, .int .i64 m, .int .i64 nv, .int .i64 na, .slice ga lg gc] := by
                show [Value.string f.name, .int .i64 (f.params.length : Int), .int .i64 ((f.found p.funcs).vars.length : Int), .int .i64 ((f.found p.funcs).arrays.length : Int), .slice ga lg gc] = _
                rw [hs0, hs1, hs2, hs3, HNV.out, HNA.out]
              rw [e]; exact o2
          refine op_store rfl rfl rfl 27 (.tmp 75) (.tmp 74) rfl ⟨cb, 0, none⟩ (.slice (some ⟨g', 0, none⟩) ((k0 + 1) + 1) cap') (eval_fill2 _ _ _ 19 75 (by decide) rfl rfl) (eval_fill2 _ _ _ 18 74 (by decide) rfl rfl) (run_store_slice _ _ _ _ (by kernel_rfl) _ _ _ _ (cell_of_heap hcx 0) (free_of_heap hcx 0)) ?_
          clear o1 o2 hgr hby hcy hcx hv18 HN7
          generalize vs 17 = v17
          generalize wx.setCell ⟨cb, 0, none⟩ (.slice (some ⟨g', 0, none⟩) ((k0 + 1) + 1) cap') = w9 at HCN ⊢
          simp only [fill, fillA, List.getD_cons_zero, List.getD_cons_succ, Nat.reduceAdd, List.setIfInBounds_toArray, List.set_cons_succ, List.set_cons_zero]
          go_wp2_with fail
          go_roundw
          case rel => exact ⟨(k0 + 1) + 1, by go_num, by omega, HCN.out⟩
          case measure => simp [intOf]; try omega
        case hr17 => exact RB.intro (Below.refl _ _).drew
    · as_aux_lemma =>
      have hltI : ¬ (k : Int) < 1 + (n1 : Int) := by omega
      have hkn : k = p.code.length := by unfold PT.code; rw [List.length_map, HNL.out]; omega
      have hcs := HCK.out
      rw [hkn] at hcs
      have hBr : Below w.heap.size w wr := HB3.out.trans (hcs.below.mono (by have := HW3.out; omega))
      have hcr := (hcs.below.block _ (lt_of_heap HC3.out)).trans HC3.out
      obtain ⟨va, vc, hcb, hvs⟩ := hcs.vsl_set HW3.out (fun i hi => by
        have hia : i < p.all.length := by unfold PT.code at hi; rwa [List.length_map] at hi
        have hvf : p.code.getD i default = FT.vf p (p.all.getD i default) := by
          unfold PT.code
          rw [List.getD_eq_getElem?_getD, List.getElem?_map, List.getElem?_eq_getElem hia, List.getD_eq_getElem?_getD, List.getElem?_eq_getElem hia]; rfl
        rw [hvf]
        show ((p.all.getD i default).code p).length ≤ _
        unfold FT.code
        have := FT.code_len p (PT.all_at i hia HOK.out)
        simp only [List.length_append, List.length_cons, List.length_nil]
        omega)
      have HBR := Lib.hid hBr
      have HCRR := Lib.hid hcr
      have HVS := Lib.hid hvs
      have HCBX := Lib.hid hcb
      have HNE : Hid (w.heap.size + 1 ≠ cb) := by have := HW3.out; have := HCB.out; show _ ≠ _; omega
      have d0 : wr.cell? ⟨cb, 0, none⟩ = some (.slice va p.code.length vc) := cell_of_heap hcb 0
      have d1 : wr.cell? ⟨w.heap.size + 1, 0, none⟩ = some (.slice none 0 0) := cell_of_heap hcr 0
      have d2 : wr.frozen? ⟨w.heap.size + 1, 0, none⟩ = false := free_of_heap hcr 0
      clear hkn hcs hBr hcr hcb hvs
      go_wp2_with fail
      refine bodyPost_ret (results_cell_tmp9 rfl _ _ (w.heap.size + 1) 29 #[.slice va p.code.length vc] (0, 0) _ rfl (by have := heap_set HCRR.out 0 (.slice va p.code.length vc); simpa using this) Tryz.underlying29 rfl rfl) rfl ?_
      exact ⟨_, rfl, HBR.out.setCell (p := ⟨w.heap.size + 1, 0, none⟩) (by simp) _, HVS.out _⟩

/-- compile.Compile, whatever the program. -/
theorem compile_r (a1 a2 : Option Addr) (n1 n2 k1 k2 : Nat) (p : PT) (mb mn : Nat) (w : World) (ht : Tab w) (hm : SmpAt w mb mn) (hp : PR w (.slice a1 n1 k1) (.slice a2 n2 k2) p) (hN : p.nodes.length ≤ 2000000) (r : Int) (hr : p.resolve = r) :
    Calls Tryz.prog 5 #[.agg #[.slice a1 n1 k1, .slice a2 n2 k2]] w fun e w' => ∃ v, e = .returned (.tuple #[.agg #[v], .int .i64 r]) ∧ Below w.heap.size w w' ∧ VSl w' v (if r = 0 then p.code else []) := by
  by_cases h0 : r = 0
  · subst h0
    refine (compile_ok a1 a2 n1 n2 k1 k2 p mb mn w ht hm hp hN hr).mono ?_
    rintro e w' ⟨v, rfl, hb, hv⟩
    exact ⟨v, rfl, hb, by rw [if_pos rfl]; exact hv⟩
  · refine (compile_bad a1 a2 n1 n2 k1 k2 p w ht hp hN r hr h0).mono ?_
    rintro e w' ⟨rfl, hb⟩
    exact ⟨_, rfl, hb, by rw [if_neg h0]; exact VSl.nil _⟩
end Go.Proofs.YthjjcmmonjajhaaGreatDoor
