/- CompileApart: functions without their bodies, laid one behind the other; its walk. -/
import Derived.Test.YthjjcmmonjajhaaDoorAddsKit
import Derived.Test.YthjjcmmonjajhaaDoorCompShown
import Derived.Test.YthjjcmmonjajhaaDoorTreeBulk
import Derived.BigQuiet
namespace Go.Proofs.YthjjcmmonjajhaaDoor
open Go.RowKit Go.Sort
set_option linter.unusedVariables false

def bareC (l : List FT) (f : Nat → Value) (i : Nat) : List Value := [.string (l.getD i default).name, f i, .slice none 0 0]
def bareR (l : List FT) (f : Nat → Value) (k : Nat) : List Value := (List.range k).flatMap (bareC l f)
theorem bareR_next (l : List FT) (f : Nat → Value) (k : Nat) : bareR l f (k + 1) = bareR l f k ++ bareC l f k := by
  unfold bareR; rw [List.range_succ, List.flatMap_append]; simp
theorem infoFc : (Tryd.prog.info? 35).map (fun i => (i.zero, i.size, i.bytes)) = some (some (.agg #[.string ⟨#[]⟩, .slice none 0 0, .slice none 0 0]), 3, 64) := by kernel_rfl
theorem own_bare {w : World} {base : Nat} {v : Value} {l : List FT} {f : Nat → Value} (ho : w.ownsRow base 35 3 v l.length (bareR l f l.length)) (ht : ∀ i, i < l.length → TSl w (f i) (l.getD i default).params) : FSl w v (l.map FT.bare) := by
  have ho' := ho
  have hg : ∀ i, i < l.length → (l.map FT.bare).getD i default = (l.getD i default).bare := fun i hi => by
    rw [List.getD_eq_getElem?_getD, List.getElem?_map, List.getElem?_eq_getElem hi, List.getD_eq_getElem?_getD, List.getElem?_eq_getElem hi]; rfl
  have hL : (l.map FT.bare).length = l.length := List.length_map _
  obtain ⟨_, ⟨rfl, h0⟩ | ⟨q, cap', cur, rfl, _, hk, hn, hmx, hsz, _⟩⟩ := ho
  · have : l = [] := List.eq_nil_of_length_eq_zero h0
    subst this
    exact FSl.nil9 _
  · have key := FSl.mk (w := w) (some ⟨q, 0, none⟩) q 0 cap' (l.map FT.bare) f (fun _ => .slice none 0 0) (fun _ => rfl) (by rw [hL]; exact hn) hmx (fun i hi => by
      rw [hL] at hi
      rw [hg i hi]
      have hc : ∀ j, j < 3 → w.cell? ⟨q, i * 3 + j, none⟩ = (bareC l f i)[j]? := fun j hj => by
        rw [own_cell ho' _ (by omega)]
        exact rows_at 3 (bareC l f) (fun _ => rfl) _ i j hi hj
      simp only [Nat.zero_add]
      exact ⟨hc 0 (by omega), hc 1 (by omega), hc 2 (by omega)⟩)
      (fun i hi => by rw [hL] at hi; rw [hg i hi]; exact ht i hi) (fun i hi => by rw [hL] at hi; rw [hg i hi]; exact SSl.nil9 _)
    rwa [hL] at key
/-- The first loop has laid so many functions. -/
structure QI (Wc : World) (qb : Nat) (mv : Value) (l : List FT) (f : Nat → Value) (k : Nat) (wr : World) : Prop where
  below : Below Wc.heap.size Wc wr
  got : ∃ fv, wr.heap[qb]? = some (.cells #[fv, mv] 25 (0, 0)) ∧ wr.ownsRow Wc.heap.size 35 3 fv k (bareR l f k)
def PHd (row : List Value) (v : Value) (w : World) : Prop := ∃ g, v = .slice (some ⟨g, 0, none⟩) 1 1 ∧ w.heap[g]? = some (.cells row.toArray 35 (0, 0))
def PWd (w3 w7 : World) (la : Option Addr) (lc K : Nat) (row : List Value) (v : Value) (w : World) : Prop := ∃ wx g' cap', v = .slice (some ⟨g', 0, none⟩) (K + 1) cap' ∧ Below w7.heap.size w7 wx ∧ (∃ xs, wx.ownsRow w3.heap.size 35 3 (.slice la K lc) K xs ∧ w.ownsRow w3.heap.size 35 3 v (K + 1) (xs ++ row)) ∧ wx.grownBy w (Value.slice la K lc).ownBlock
theorem PHd.alloc {row : List Value} {v : Value} {w : World} (h : PHd row v w) (o : Obj) : PHd row v (w.alloc o) := by
  obtain ⟨g, e, hg⟩ := h
  exact ⟨g, e, (Below.heap_alloc _ _ _ (lt_of_heap hg)).trans hg⟩
theorem PHd.new (row : List Value) (w : World) : PHd row (.slice (some ⟨w.heap.size, 0, none⟩) 1 1) (w.alloc (.cells row.toArray 35)) := ⟨_, rfl, heap_alloc_new _ _⟩
theorem QI.next {Wc wr wx wy : World} {qb : Nat} {mv : Value} {l : List FT} {f : Nat → Value} {k : Nat} {la : Option Addr} {lc : Nat} {v' : Value} (hge : Wc.heap.size ≤ qb) (h : QI Wc qb mv l f k wr) (hb : Below wr.heap.size wr wy) (hc : wy.heap[qb]? = some (.cells #[.slice la k lc, mv] 25 (0, 0)))
    (hg : wy.grownBy wx (Value.slice la k lc).ownBlock) (ho : ∃ xs, wy.ownsRow Wc.heap.size 35 3 (.slice la k lc) k xs ∧ wx.ownsRow Wc.heap.size 35 3 v' (k + 1) (xs ++ bareC l f k)) : QI Wc qb mv l f (k + 1) (wx.setCell ⟨qb, 0, none⟩ v') := by
  obtain ⟨h1, fv, hq, h2⟩ := h
  obtain rfl : fv = .slice la k lc := by
    have := (hb.block qb (lt_of_heap hq)).trans hq
    rw [hc] at this
    injection this with this
    injection this with this _ _
    injection this with this
    injection this with this
    exact this.symm
  obtain ⟨xs, o1, o2⟩ := ho
  have h2' := own_hold9 h2 hb
  rw [own_unique o1 h2'] at o2
  have hs3 : Wc.heap.size ≤ wy.heap.size := Nat.le_trans h1.size hb.size
  have hcb7 : wx.heap[qb]? = some (.cells #[.slice la k lc, mv] 25 (0, 0)) := (hg.block qb (lt_of_heap hc) (own_ne_box h2' hc (by decide))).trans hc
  have hb7 : Below Wc.heap.size Wc wx := (h1.trans (hb.mono h1.size)).grown hg hs3 (fun r e => own_ge h2' e)
  refine ⟨hb7.setCell (p := ⟨qb, 0, none⟩) hge _, v', ?_, ?_⟩
  · have := heap_set hcb7 0 v'
    simpa using this
  · rw [bareR_next]
    exact o2.kept (grown_set wx qb 0 v') (.inr (fun e' => own_ne_box o2 hcb7 (by decide) e'.symm))
def bareT : ByteArray := ⟨#[48, 32, 112, 117, 115, 104, 32, 48, 10, 49, 32, 114, 101, 116, 117, 114, 110, 10]⟩
theorem bareT_is : textB [⟨1, 0, 0⟩, ⟨18, 0, 0⟩] = ⟨#[48, 32, 112, 117, 115, 104, 32, 48, 10, 49, 32, 114, 101, 116, 117, 114, 110, 10]⟩ := by decide +kernel
theorem bare_rg : InsRg [⟨1, 0, 0⟩, ⟨18, 0, 0⟩] := by
  intro i hi
  simp only [List.mem_cons, List.not_mem_nil, or_false] at hi
  rcases hi with rfl | rfl <;> simp [C.R]
set_option maxHeartbeats 8000000 in
set_option maxRecDepth 1000000 in
theorem apart_ok (a1 a2 : Option Addr) (n1 n2 k1 k2 : Nat) (p : PT) (mb mn : Nat) (w : World) (ht : TabAll w mb mn) (hp : PR w (.slice a1 n1 k1) (.slice a2 n2 k2) p) (hN : p.nodes.length ≤ 1048576) (hr : p.resolve = 0) :
    Calls Tryd.prog 3 #[.agg #[.slice a1 n1 k1, .slice a2 n2 k2]] w fun e w' => e = .returned (.bool true) ∧ Below w.heap.size w w' := by
  obtain ⟨b, off, ff, gg, hfr⟩ := hp.1.rw9
  have hm33 : p.all.length ≤ 33 := (PT.all_ok (PT.resolve_parts hr).1 (Nat.le_refl _)).1
  have hn1 : n1 = p.funcs.length := hfr.len
  have hmn : (n1 : Int) + 1 = (p.all.length : Int) := by have := p.all_len; omega
  have hm1 : 1 ≤ p.all.length := by have := p.all_len; omega
  have hn32 : n1 ≤ 32 := by omega
  have HFL := Lib.hid hn1
  have HFR := Lib.hid hfr
  have HT := Lib.hid ht
  have HP := Lib.hid hp
  have HN := Lib.hid hN
  have HR0 := Lib.hid hr
  clear ht hp hN hr hfr hn1
  have HB0 := hb_start w
  have HBA : Hid (Below w.heap.size w (w.alloc (.cells #[.slice a1 n1 k1, .slice a2 n2 k2] 25))) := hb_alloc HB0 _
  have HXA : Hid ((w.alloc (.cells #[.slice a1 n1 k1, .slice a2 n2 k2] 25)).heap[w.heap.size]? = some (.cells #[.slice a1 n1 k1, .slice a2 n2 k2] 25 (0, 0))) := heap_alloc_new _ _
  go_enter Tryd.func3, Tryd.ntmps3
  go_wp2_with fail
  refine (shown_r mb mn _ (HT.out.below HBA.out)).mono ?_
  rintro e w1 ⟨rfl, hb⟩
  have HB1 : Hid (Below w.heap.size w w1) := hb_step HBA hb
  have HX1 := Lib.hid ((hb.block _ (lt_of_heap HXA.out)).trans HXA.out)
  have c0 : w1.cell? ⟨w.heap.size, 0, none⟩ = some (.slice a1 n1 k1) := cell_of_heap HX1.out 0
  have c1 : w1.cell? ⟨w.heap.size, 1, none⟩ = some (.slice a2 n2 k2) := cell_of_heap HX1.out 1
  clear hb
  go_wp2_with fail
  refine (compile_r a1 a2 n1 n2 k1 k2 p mb mn _ (HT.out.below HB1.out).tree (HT.out.below HB1.out).smp (HP.out.stay HB1.out) (by have := HN.out; omega) _ HR0.out).mono ?_
  rintro e w2 ⟨v, rfl, hb, hv⟩
  have HB2 : Hid (Below w.heap.size w w2) := hb_step HB1 hb
  rw [if_pos rfl] at hv
  obtain ⟨va, vc, rfl⟩ := hv.shape
  have hpl : p.code.length = p.all.length := p.code_len9
  rw [hpl] at hv
  rw [hpl]
  generalize hm : p.all.length = m at hv hm33 hm1 hmn ⊢
  have HM := Lib.hid hm
  have HV := Lib.hid (hv.stay ((Below.refl w2.heap.size w2).alloc (Nat.le_refl _) (.cells #[.slice va m vc] 29)))
  have HBX : Hid (Below w.heap.size w (w2.alloc (.cells #[.slice va m vc] 29))) := hb_alloc HB2 _
  have HXC : Hid ((w2.alloc (.cells #[.slice va m vc] 29)).heap[w2.heap.size]? = some (.cells #[.slice va m vc] 29 (0, 0))) := heap_alloc_new _ _
  have HX2 := Lib.hid ((Below.heap_alloc w2 (.cells #[.slice va m vc] 29) w.heap.size (Nat.lt_of_lt_of_le (lt_of_heap HX1.out) hb.size)).trans ((hb.block _ (lt_of_heap HX1.out)).trans HX1.out))
  clear c0 c1 hb hv hm hpl HX1 HXA HBA
  have c1 : (w2.alloc (.cells #[.slice va m vc] 29)).cell? ⟨w.heap.size, 1, none⟩ = some (.slice a2 n2 k2) := cell_of_heap HX2.out 1
  go_wp2_with fail
  clear c1
  generalize hWc : w2.alloc (.cells #[.slice va m vc] 29) = Wc at HV HBX HXC HX2 ⊢
  rw [show w2.heap.size + 1 = Wc.heap.size from by rw [← hWc, World.size_alloc]]
  generalize hcB : w2.heap.size = cB at HXC ⊢
  clear hWc hcB HB2 HB1
  go_loopw [7] (fun i wr => ∃ k : Nat, i = .int .i64 k ∧ k ≤ n1 ∧ Hid (QI Wc Wc.heap.size (.slice a2 n2 k2) p.funcs ff k wr)) (fun i _ => n1 - (intOf i).toNat)
  case atStart => exact ⟨0, rfl, Nat.zero_le _, (Below.refl _ _).alloc (Nat.le_refl _) _, .slice none 0 0, heap_alloc_new _ _, World.ownsRow_nil _ _ _ _⟩
  case round =>
    obtain ⟨k, rfl, hk, HQ⟩ := hrel
    obtain ⟨wo, rfl⟩ : ∃ z, z = wr := ⟨_, rfl⟩
    have HBo : Hid (Below w.heap.size w wo) := HBX.out.trans (HQ.out.below.mono HBX.out.size)
    have HXo := Lib.hid ((HQ.out.below.block _ (lt_of_heap HX2.out)).trans HX2.out)
    obtain ⟨hbl, fv, hqb, hqo⟩ := HQ.out
    obtain ⟨la, lc, rfl⟩ := own_shape hqo
    have HQB := Lib.hid hqb
    have HQO := Lib.hid hqo
    clear hbl hqb hqo
    have x0 : wo.cell? ⟨w.heap.size, 0, none⟩ = some (.slice a1 n1 k1) := cell_of_heap HXo.out 0
    by_cases hlt : k < n1
    · obtain rfl := HFR.out.at_ (by omega)
      obtain ⟨r0, r1, _⟩ := fcellC_at p.funcs ff gg k
      have e0 := HFR.out.cell (k * 3) (by omega)
      have e1 := HFR.out.cell (k * 3 + 1) (by omega)
      rw [r0] at e0
      rw [r1, ← Nat.add_assoc] at e1
      obtain ⟨pa, pc, hps, _, _⟩ := (HFR.out.ts k hlt).shape9
      have hbC : bareC p.funcs ff k = [.string (p.funcs.getD k default).name, ff k, .slice none 0 0] := rfl
      rw [hps] at e1 hbC
      generalize (p.funcs.getD k default).name = s at e0 hbC
      generalize (p.funcs.getD k default).params.length = pn at e1 hbC
      have HE0 := Lib.hid (cell_below HBo e0)
      have HE1 := Lib.hid (cell_below HBo e1)
      have HX0 := Lib.hid x0
      have HQ0 : Hid (wo.cell? ⟨Wc.heap.size, 0, none⟩ = some (.slice la k lc)) := cell_of_heap HQB.out 0
      have HBC := Lib.hid hbC
      have hltI : (k : Int) < n1 := by omega
      clear r0 r1 e0 e1 hps hbC
      go_wp2_with fail
      refine region_flow3 rfl 18 rfl (by decide +kernel) [30, 31, 32, 33, 34, 35, 36, 37, 38, 39, 40, 41, 42, 43, 44, 45, 46, 47] (by decide +kernel) rfl (by decide) (by simp) 16 (by decide) [0, 1, 2, 3, 4, 5, 6, 7, 8, 9, 10, 11, 12, 13, 14, 15] (by decide +kernel) (RB wo)
        (PhiB 15 16 (PHd [.string s, .slice pa pn pc, .slice none 0 0]) (PWd Wc wo la lc k [.string s, .slice pa pn pc, .slice none 0 0]) [.pointer (some ⟨Wc.heap.size, 0, none⟩), .slice la k lc, .pointer (some ⟨w.heap.size, 0, none⟩), .slice (some ⟨b, off, none⟩) n1 k1, .int .i64 (k : Int), .pointer (some ⟨b, off + k * 3, none⟩), .pointer (some ⟨b, off + k * 3, none⟩), .string s, .pointer (some ⟨w.heap.size, 0, none⟩), .slice (some ⟨b, off, none⟩) n1 k1, .int .i64 (k : Int), .pointer (some ⟨b, off + k * 3, none⟩), .pointer (some ⟨b, off + k * 3 + 1, none⟩), .slice pa pn pc, .agg #[.string s, .slice pa pn pc, .slice none 0 0], undef, undef, .pointer (some ⟨Wc.heap.size, 0, none⟩)]) ?hr9 ?hs9 ?hw9 ?hl9
      case hs9 =>
        intro ix bq hix him hbE a wx hR hout hdep
        have hix' : ix = 0 ∨ ix = 1 ∨ ix = 2 ∨ ix = 3 ∨ ix = 4 ∨ ix = 5 ∨ ix = 6 ∨ ix = 7 ∨ ix = 8 ∨ ix = 9 ∨ ix = 10 ∨ ix = 11 ∨ ix = 12 ∨ ix = 13 ∨ ix = 14 ∨ ix = 15 ∨ ix = 17 := by omega
        rcases hix' with rfl | rfl | rfl | rfl | rfl | rfl | rfl | rfl | rfl | rfl | rfl | rfl | rfl | rfl | rfl | rfl | rfl
        · obtain rfl : bq = false := by
            cases bq
            · rfl
            · exact absurd (by decide) (hbE rfl)
          have HR := Lib.hid (hR rfl)
          clear hR hbE him
          have e6 := hout 6 (by decide)
          clear hout hdep
          refine op_list (by rfl) ?_
          go_wp2
          exact withK_intro ⟨_, rfl, fun _ _ _ h => h, RB.intro HR.out, PhiB.known (by decide) (by decide)⟩
        · obtain rfl : bq = false := by
            cases bq
            · rfl
            · exact absurd (by decide) (hbE rfl)
          have HR := Lib.hid (hR rfl)
          clear hR hbE him
          have e30 : a.tmps[30]? = some (.pointer (some ⟨Wc.heap.size, 0, none⟩)) := flow_depB hdep 0 30 (by kernel_rfl) rfl (by decide) (by decide)
          have z := cell_below HR HQ0.out
          clear hout hdep
          refine op_list (by rfl) ?_
          go_wp2
          exact withK_intro ⟨_, rfl, fun _ _ _ h => h, RB.intro HR.out, PhiB.known (by decide) (by decide)⟩
        · obtain rfl : bq = false := by
            cases bq
            · rfl
            · exact absurd (by decide) (hbE rfl)
          have HR := Lib.hid (hR rfl)
          clear hR hbE him
          have e1 := hout 1 (by decide)
          clear hout hdep
          refine op_list (by rfl) ?_
          go_wp2
          exact withK_intro ⟨_, rfl, fun _ _ _ h => h, RB.intro HR.out, PhiB.known (by decide) (by decide)⟩
        · obtain rfl : bq = false := by
            cases bq
            · rfl
            · exact absurd (by decide) (hbE rfl)
          have HR := Lib.hid (hR rfl)
          clear hR hbE him
          have e32 : a.tmps[32]? = some (.pointer (some ⟨w.heap.size, 0, none⟩)) := flow_depB hdep 2 32 (by kernel_rfl) rfl (by decide) (by decide)
          have z := cell_below HR HX0.out
          clear hout hdep
          refine op_list (by rfl) ?_
          go_wp2
          exact withK_intro ⟨_, rfl, fun _ _ _ h => h, RB.intro HR.out, PhiB.known (by decide) (by decide)⟩
        · obtain rfl : bq = false := by
            cases bq
            · rfl
            · exact absurd (by decide) (hbE rfl)
          have HR := Lib.hid (hR rfl)
          clear hR hbE him
          have e7 := hout 7 (by decide)
          clear hout hdep
          refine op_list (by rfl) ?_
          go_wp2
          exact withK_intro ⟨_, rfl, fun _ _ _ h => h, RB.intro HR.out, PhiB.known (by decide) (by decide)⟩
        · obtain rfl : bq = false := by
            cases bq
            · rfl
            · exact absurd (by decide) (hbE rfl)
          have HR := Lib.hid (hR rfl)
          clear hR hbE him
          have e33 : a.tmps[33]? = some (.slice (some ⟨b, off, none⟩) n1 k1) := flow_depB hdep 3 33 (by kernel_rfl) rfl (by decide) (by decide)
          have e34 : a.tmps[34]? = some (.int .i64 (k : Int)) := flow_depB hdep 4 34 (by kernel_rfl) rfl (by decide) (by decide)
          clear hout hdep
          refine op_list (by rfl) ?_
          go_wp2
          exact withK_intro ⟨_, rfl, fun _ _ _ h => h, RB.intro HR.out, PhiB.known (by decide) (by decide)⟩
        · obtain rfl : bq = false := by
            cases bq
            · rfl
            · exact absurd (by decide) (hbE rfl)
          have HR := Lib.hid (hR rfl)
          clear hR hbE him
          have e35 : a.tmps[35]? = some (.pointer (some ⟨b, off + k * 3, none⟩)) := flow_depB hdep 5 35 (by kernel_rfl) rfl (by decide) (by decide)
          clear hout hdep
          refine op_list (by rfl) ?_
          go_wp2
          exact withK_intro ⟨_, rfl, fun _ _ _ h => h, RB.intro HR.out, PhiB.known (by decide) (by decide)⟩
        · obtain rfl : bq = false := by
            cases bq
            · rfl
            · exact absurd (by decide) (hbE rfl)
          have HR := Lib.hid (hR rfl)
          clear hR hbE him
          have e36 : a.tmps[36]? = some (.pointer (some ⟨b, off + k * 3, none⟩)) := flow_depB hdep 6 36 (by kernel_rfl) rfl (by decide) (by decide)
          have z := cell_below HR HE0.out
          clear hout hdep
          refine op_list (by rfl) ?_
          go_wp2
          exact withK_intro ⟨_, rfl, fun _ _ _ h => h, RB.intro HR.out, PhiB.known (by decide) (by decide)⟩
        · obtain rfl : bq = false := by
            cases bq
            · rfl
            · exact absurd (by decide) (hbE rfl)
          have HR := Lib.hid (hR rfl)
          clear hR hbE him
          have e1 := hout 1 (by decide)
          clear hout hdep
          refine op_list (by rfl) ?_
          go_wp2
          exact withK_intro ⟨_, rfl, fun _ _ _ h => h, RB.intro HR.out, PhiB.known (by decide) (by decide)⟩
        · obtain rfl : bq = false := by
            cases bq
            · rfl
            · exact absurd (by decide) (hbE rfl)
          have HR := Lib.hid (hR rfl)
          clear hR hbE him
          have e38 : a.tmps[38]? = some (.pointer (some ⟨w.heap.size, 0, none⟩)) := flow_depB hdep 8 38 (by kernel_rfl) rfl (by decide) (by decide)
          have z := cell_below HR HX0.out
          clear hout hdep
          refine op_list (by rfl) ?_
          go_wp2
          exact withK_intro ⟨_, rfl, fun _ _ _ h => h, RB.intro HR.out, PhiB.known (by decide) (by decide)⟩
        · obtain rfl : bq = false := by
            cases bq
            · rfl
            · exact absurd (by decide) (hbE rfl)
          have HR := Lib.hid (hR rfl)
          clear hR hbE him
          have e7 := hout 7 (by decide)
          clear hout hdep
          refine op_list (by rfl) ?_
          go_wp2
          exact withK_intro ⟨_, rfl, fun _ _ _ h => h, RB.intro HR.out, PhiB.known (by decide) (by decide)⟩
        · obtain rfl : bq = false := by
            cases bq
            · rfl
            · exact absurd (by decide) (hbE rfl)
          have HR := Lib.hid (hR rfl)
          clear hR hbE him
          have e39 : a.tmps[39]? = some (.slice (some ⟨b, off, none⟩) n1 k1) := flow_depB hdep 9 39 (by kernel_rfl) rfl (by decide) (by decide)
          have e40 : a.tmps[40]? = some (.int .i64 (k : Int)) := flow_depB hdep 10 40 (by kernel_rfl) rfl (by decide) (by decide)
          clear hout hdep
          refine op_list (by rfl) ?_
          go_wp2
          exact withK_intro ⟨_, rfl, fun _ _ _ h => h, RB.intro HR.out, PhiB.known (by decide) (by decide)⟩
        · obtain rfl : bq = false := by
            cases bq
            · rfl
            · exact absurd (by decide) (hbE rfl)
          have HR := Lib.hid (hR rfl)
          clear hR hbE him
          have e41 : a.tmps[41]? = some (.pointer (some ⟨b, off + k * 3, none⟩)) := flow_depB hdep 11 41 (by kernel_rfl) rfl (by decide) (by decide)
          clear hout hdep
          refine op_list (by rfl) ?_
          go_wp2
          exact withK_intro ⟨_, rfl, fun _ _ _ h => h, RB.intro HR.out, PhiB.known (by decide) (by decide)⟩
        · obtain rfl : bq = false := by
            cases bq
            · rfl
            · exact absurd (by decide) (hbE rfl)
          have HR := Lib.hid (hR rfl)
          clear hR hbE him
          have e42 : a.tmps[42]? = some (.pointer (some ⟨b, off + k * 3 + 1, none⟩)) := flow_depB hdep 12 42 (by kernel_rfl) rfl (by decide) (by decide)
          have z := cell_below HR HE1.out
          clear hout hdep
          refine op_list (by rfl) ?_
          go_wp2
          exact withK_intro ⟨_, rfl, fun _ _ _ h => h, RB.intro HR.out, PhiB.known (by decide) (by decide)⟩
        · obtain rfl : bq = false := by
            cases bq
            · rfl
            · exact absurd (by decide) (hbE rfl)
          have HR := Lib.hid (hR rfl)
          clear hR hbE him
          have e37 : a.tmps[37]? = some (.string s) := flow_depB hdep 7 37 (by kernel_rfl) rfl (by decide) (by decide)
          have e43 : a.tmps[43]? = some (.slice pa pn pc) := flow_depB hdep 13 43 (by kernel_rfl) rfl (by decide) (by decide)
          clear hout hdep
          refine op_list (by rfl) ?_
          go_wp2
          exact withK_intro ⟨_, rfl, fun _ _ _ h => h, RB.intro HR.out, PhiB.known (by decide) (by decide)⟩
        · obtain rfl : bq = false := by
            cases bq
            · rfl
            · exact absurd (by decide) (hbE rfl)
          have HR := Lib.hid (hR rfl)
          clear hR hbE him
          have e44 : a.tmps[44]? = some (.agg #[.string s, .slice pa pn pc, .slice none 0 0]) := flow_depB hdep 14 44 (by kernel_rfl) rfl (by decide) (by decide)
          clear hout hdep
          refine op_list (by rfl) ?_
          have e44' : a.eval (.tmp 44) = .agg #[.string s, .slice pa pn pc, .slice none 0 0] := by simp [Act.eval, Array.getD_eq_getD_getElem?, e44]
          refine Great.wpList_buildSliceTo rfl 22 35 1 #[(0, .tmp 44)] rfl wx.heap.size rfl (some 45) rfl Tryd.underlying22 #[.string s, .slice pa pn pc, .slice none 0 0] ?hbs ?_
          case hbs =>
            simp only [List.map_toArray, List.map_cons, List.map_nil, e44']
            kernel_rfl
          go_wp2
          exact withK_intro ⟨_, rfl, fun j u hj h => h.stay (fun hh => hh.alloc _), RB.intro (HR.out.alloc HR.out.size _), PhiB.made (by decide) (PHd.new _ _)⟩
        · have HR := Lib.hid hR
          clear hR hbE him
          have e6 := hout 6 (by decide)
          clear hout hdep
          refine op_list (by rfl) ?_
          try simp only [List.getElem_toArray, List.getElem_cons_succ, List.getElem_cons_zero]
          go_wp2
          exact withK_intro ⟨_, rfl, fun _ _ _ h => h, HR.out, PhiB.known (by decide) (by decide)⟩
      case hw9 =>
        intro a wx hR hout hdep
        have HR := Lib.hid (hR rfl)
        clear hR
        obtain ⟨v45, e45, hφs⟩ := hdep 15 45 (by kernel_rfl) rfl
        have e31 : a.tmps[31]? = some (.slice la k lc) := flow_depB hdep 1 31 (by kernel_rfl) rfl (by decide) (by decide)
        have hps := hφs.2.1 rfl rfl
        obtain ⟨g, rfl, hgh⟩ := hps
        clear hφs hout hdep
        obtain ⟨iS, hiS, hS0, hS1, hS2⟩ := info_parts infoFc
        have hxs := own_hold9 HQO.out HR.out
        refine op_list (by rfl) ?_
        refine wpList_append_own _ rfl _ _ 22 rfl Wc.heap.size 35 iS _ 3 64 Tryd.underlying22 hiS hS0 hS1 hS2 rfl (by decide) (.slice la k lc) _ _ (by simp [Act.eval, Array.getD_eq_getD_getElem?, e31]) hxs ⟨g, 0, none⟩ 1 1 [.string s, .slice pa pn pc, .slice none 0 0] (by simp [Act.eval, Array.getD_eq_getD_getElem?, e45]) rfl
          (fun i u hu => by rw [addr_add0, Nat.zero_add, cell_of_heap hgh, ← hu]; simp) (by intro u hu; simp at hu; rcases hu with rfl | rfl | rfl <;> rfl) (by unfold maxLen; omega) (by omega) (Nat.le_trans HQ.out.below.size HR.out.size) ?_
        intro v' w8 hown' hgrow _
        obtain ⟨g', cap', rfl⟩ := ownsRow_succ' hown'
        have HPN : Hid (PWd Wc wo la lc k [.string s, .slice pa pn pc, .slice none 0 0] (.slice (some ⟨g', 0, none⟩) (k + 1) cap') w8) := ⟨_, g', cap', rfl, HR.out, ⟨_, hxs, hown'⟩, hgrow⟩
        clear hown' hgrow hxs hgh e45 e31 hiS hS0 hS1 hS2
        go_wp2
        exact withK_intro ⟨_, rfl, fun j u hj hne h => h.turn hne, RB.done, PhiB.wrote (by decide) HPN.out⟩
      case hl9 =>
        intro vs wx hR hφ
        clear hR
        have hpw := (hφ 16 (by omega)).2.2 rfl rfl
        obtain ⟨wy, g', cap', hv16, hby, ⟨xs, o1, o2⟩, hgr⟩ := hpw
        rw [fill_congr _ [30, 31, 32, 33, 34, 35, 36, 37, 38, 39, 40, 41, 42, 43, 44, 45, 46, 47] vs (fun jx => ([.pointer (some ⟨Wc.heap.size, 0, none⟩), .slice la k lc, .pointer (some ⟨w.heap.size, 0, none⟩), .slice (some ⟨b, off, none⟩) n1 k1, .int .i64 (k : Int), .pointer (some ⟨b, off + k * 3, none⟩), .pointer (some ⟨b, off + k * 3, none⟩), .string s, .pointer (some ⟨w.heap.size, 0, none⟩), .slice (some ⟨b, off, none⟩) n1 k1, .int .i64 (k : Int), .pointer (some ⟨b, off + k * 3, none⟩), .pointer (some ⟨b, off + k * 3 + 1, none⟩), .slice pa pn pc, .agg #[.string s, .slice pa pn pc, .slice none 0 0], vs 15, .slice (some ⟨g', 0, none⟩) (k + 1) cap', .pointer (some ⟨Wc.heap.size, 0, none⟩)] : List Value).getD jx undef) (fun jx hj => by
          by_cases e : jx = 16
          · subst e; assumption
          · by_cases e2 : jx = 15
            · subst e2; rfl
            · have hj' : jx = 0 ∨ jx = 1 ∨ jx = 2 ∨ jx = 3 ∨ jx = 4 ∨ jx = 5 ∨ jx = 6 ∨ jx = 7 ∨ jx = 8 ∨ jx = 9 ∨ jx = 10 ∨ jx = 11 ∨ jx = 12 ∨ jx = 13 ∨ jx = 14 ∨ jx = 17 := by simp at hj; omega
              rw [(hφ jx hj).1 e2 e]
              rcases hj' with rfl | rfl | rfl | rfl | rfl | rfl | rfl | rfl | rfl | rfl | rfl | rfl | rfl | rfl | rfl | rfl <;> rfl)]
        clear hφ
        rw [hv16] at o2
        have hcy : wy.heap[Wc.heap.size]? = some (.cells #[.slice la k lc, .slice a2 n2 k2] 25 (0, 0)) := (hby.block _ (lt_of_heap HQB.out)).trans HQB.out
        have hcx : wx.heap[Wc.heap.size]? = some (.cells #[.slice la k lc, .slice a2 n2 k2] 25 (0, 0)) := (hgr.block _ (lt_of_heap hcy) (own_ne_box o1 hcy (by decide))).trans hcy
        have HCN : Hid (QI Wc Wc.heap.size (.slice a2 n2 k2) p.funcs ff (k + 1) (wx.setCell ⟨Wc.heap.size, 0, none⟩ (.slice (some ⟨g', 0, none⟩) (k + 1) cap'))) := QI.next (Nat.le_refl _) HQ.out hby hcy hgr ⟨xs, o1, by rw [HBC.out]; exact o2⟩
        refine op_store rfl rfl rfl 22 (.tmp 47) (.tmp 46) rfl ⟨Wc.heap.size, 0, none⟩ (.slice (some ⟨g', 0, none⟩) (k + 1) cap') (eval_fill2 _ _ _ 17 47 (by decide) rfl rfl) (eval_fill2 _ _ _ 16 46 (by decide) rfl rfl) (run_store_slice _ _ _ _ (by kernel_rfl) _ _ _ _ (cell_of_heap hcx 0) (free_of_heap hcx 0)) ?_
        clear o1 o2 hgr hby hcy hcx hv16
        generalize vs 15 = v15
        generalize wx.setCell ⟨Wc.heap.size, 0, none⟩ (.slice (some ⟨g', 0, none⟩) (k + 1) cap') = w9 at HCN ⊢
        simp only [fill, fillA, List.getD_cons_zero, List.getD_cons_succ, Nat.reduceAdd, List.setIfInBounds_toArray, List.set_cons_succ, List.set_cons_zero]
        go_wp2_with fail
        go_roundw
        case rel => exact ⟨k + 1, by go_num, by omega, HCN.out⟩
        case measure => simp [intOf]; try omega
      case hr9 => exact RB.intro (Below.refl _ _).drew
    · obtain rfl : k = n1 := by omega
      have hW3 : Below w.heap.size w wo := HBo.out
      have hF : FSl wo (.slice la k lc) (p.funcs.map FT.bare) := by
        have ho := HQO.out
        have hl := HFL.out
        subst hl
        exact own_bare ho (fun i hi => (HFR.out.ts i hi).stay HBo.out)
      have HPQ : Hid (PR wo (.slice la k lc) (.slice a2 n2 k2) (bareP p)) := ⟨hF, (HP.out.stay HBo.out).2⟩
      have HVQ := Lib.hid (HV.out.stay HQ.out.below)
      have HXCQ := Lib.hid ((HQ.out.below.block _ (lt_of_heap HXC.out)).trans HXC.out)
      have z0 : wo.cell? ⟨Wc.heap.size, 0, none⟩ = some (.slice la k lc) := cell_of_heap HQB.out 0
      have z1 : wo.cell? ⟨Wc.heap.size, 1, none⟩ = some (.slice a2 n2 k2) := cell_of_heap HQB.out 1
      clear hW3 hF
      go_wp2_with fail
      refine (compile_r la a2 k n2 lc k2 (bareP p) mb mn _ (HT.out.below HBo.out).tree (HT.out.below HBo.out).smp HPQ.out (by have := HN.out; have := bare_nodes_len p; omega) _ (bare_resolve HR0.out)).mono ?_
      rintro e w4 ⟨v, rfl, hb, hv⟩
      rw [if_pos rfl] at hv
      obtain ⟨ua, uc, rfl⟩ := hv.shape
      have hpl : (bareP p).code.length = m := (bare_code_len p).trans (p.code_len9.trans HM.out)
      rw [hpl] at hv
      rw [hpl]
      have hbA : Below w4.heap.size w4 (w4.alloc (.cells #[.slice ua m uc] 29)) := (Below.refl _ _).alloc (Nat.le_refl _) _
      have hb3 : Below wo.heap.size wo (w4.alloc (.cells #[.slice ua m uc] 29)) := hb.trans (hbA.mono hb.size)
      have HB3 : Hid (Below w.heap.size w (w4.alloc (.cells #[.slice ua m uc] 29))) := HBo.out.trans (hb3.mono HBo.out.size)
      have HV3 := Lib.hid (HVQ.out.stay hb3)
      have HU3 := Lib.hid (hv.stay hbA)
      have HXC3 := Lib.hid ((hb3.block _ (lt_of_heap HXCQ.out)).trans HXCQ.out)
      have HXP3 := Lib.hid ((hb3.block _ (lt_of_heap HXo.out)).trans HXo.out)
      have HXD3 : Hid ((w4.alloc (.cells #[.slice ua m uc] 29)).heap[w4.heap.size]? = some (.cells #[.slice ua m uc] 29 (0, 0))) := heap_alloc_new _ _
      clear hb hv hpl hbA hb3 HXCQ HVQ HBo HPQ z0 z1 x0 HQB HQO HXo
      go_wp2_with fail
      generalize w4.alloc (.cells #[.slice ua m uc] 29) = W3 at HB3 HV3 HU3 HXC3 HXD3 HXP3 ⊢
      generalize w4.heap.size = dB at HXD3 ⊢
      obtain ⟨-, cb, co, ca, cc, rfl, ⟨-, -, -, -, q4⟩, hic⟩ := HV3.out.at9 0 (by omega)
      obtain ⟨-, db, dof, xa, xc, rfl, ⟨-, -, -, -, r4⟩, hid⟩ := HU3.out.at9 0 (by omega)
      have hl0 : ((bareP p).code.getD 0 default).l = (p.code.getD 0 default).l := by rw [PT.code_main, PT.code_main, bare_mainC]
      rw [hl0] at r4 hid
      obtain ⟨mo, hok, hl5⟩ := PT.code_rg HR0.out (show _ ≤ 2000000 by have := HN.out; omega) 0 (by have := HM.out; omega)
      generalize (p.code.getD 0 default).l = L at q4 hic r4 hid hok hl5
      obtain ⟨s, hs⟩ : ∃ s, textB L = s := ⟨_, rfl⟩
      have HTX := Lib.hid (And.intro hl5 (And.intro (okI_rg hok) hs))
      simp only [Nat.zero_mul, Nat.add_zero] at q4 r4
      have HC0 : Hid (W3.cell? ⟨cB, 0, none⟩ = some (.slice (some ⟨cb, co, none⟩) m vc)) := cell_of_heap HXC3.out 0
      have HD0 : Hid (W3.cell? ⟨dB, 0, none⟩ = some (.slice (some ⟨db, dof, none⟩) m uc)) := cell_of_heap HXD3.out 0
      have HP0 : Hid (W3.cell? ⟨w.heap.size, 0, none⟩ = some (.slice a1 k k1)) := cell_of_heap HXP3.out 0
      have HC4 := Lib.hid q4
      have HD4 := Lib.hid r4
      have HIC := Lib.hid hic
      have HID := Lib.hid hid
      have HTC : Hid (TabAll W3 mb mn) := HT.out.below HB3.out
      generalize L.length = n0 at HC4 HD4 HIC HID
      have hm0 : 0 < m := by omega
      clear q4 r4 hic hid hok hl5 hs hl0
      refine region_flow rfl 35 rfl (by decide +kernel) [53, 54, 55, 56, 57, 58, 59, 60, 61, 62, 63, 64, 65, 66, 67, 68, 69, 70, 71, 72, 73, 74, 75, 76, 77, 78, 79, 80, 81, 82, 83, 84, 85, 86, 87] (by decide +kernel) rfl (by decide) (by simp) (fun w w' => Below w.heap.size w w') (fun w => Below W3.heap.size W3 w)
        (fun j v _ => v = ([.int .i64 (0), .bool false, .bool false, .pointer (some ⟨dB, 0, none⟩), .slice (some ⟨db, dof, none⟩) m uc, .int .i64 (m : Int), .pointer (some ⟨cB, 0, none⟩), .slice (some ⟨cb, co, none⟩) m vc, .int .i64 (m : Int), .bool false, .bool false, .bool false, .pointer (some ⟨cB, 0, none⟩), .slice (some ⟨cb, co, none⟩) m vc, .int .i64 (m : Int), .pointer (some ⟨w.heap.size, 0, none⟩), .slice a1 k k1, .int .i64 (k : Int), .int .i64 (m : Int), .bool false, .bool false, .bool false, .pointer (some ⟨dB, 0, none⟩), .slice (some ⟨db, dof, none⟩) m uc, .pointer (some ⟨db, dof, none⟩), .pointer (some ⟨db, dof + 4, none⟩), .slice xa n0 xc, .string s, .pointer (some ⟨cB, 0, none⟩), .slice (some ⟨cb, co, none⟩) m vc, .pointer (some ⟨cb, co, none⟩), .pointer (some ⟨cb, co + 4, none⟩), .slice ca n0 cc, .string s, .bool false] : List Value).getD j undef) (fun _ _ _ _ _ h => h) ?hr11 ?hs11 ?hl11
      case hs11 =>
        intro ix hix a wx hR hout hdep
        have hix' : ix = 0 ∨ ix = 1 ∨ ix = 2 ∨ ix = 3 ∨ ix = 4 ∨ ix = 5 ∨ ix = 6 ∨ ix = 7 ∨ ix = 8 ∨ ix = 9 ∨ ix = 10 ∨ ix = 11 ∨ ix = 12 ∨ ix = 13 ∨ ix = 14 ∨ ix = 15 ∨ ix = 16 ∨ ix = 17 ∨ ix = 18 ∨ ix = 19 ∨ ix = 20 ∨ ix = 21 ∨ ix = 22 ∨ ix = 23 ∨ ix = 24 ∨ ix = 25 ∨ ix = 26 ∨ ix = 27 ∨ ix = 28 ∨ ix = 29 ∨ ix = 30 ∨ ix = 31 ∨ ix = 32 ∨ ix = 33 ∨ ix = 34 := by omega
        rcases hix' with rfl | rfl | rfl | rfl | rfl | rfl | rfl | rfl | rfl | rfl | rfl | rfl | rfl | rfl | rfl | rfl | rfl | rfl | rfl | rfl | rfl | rfl | rfl | rfl | rfl | rfl | rfl | rfl | rfl | rfl | rfl | rfl | rfl | rfl | rfl
        · have HR := Lib.hid hR
          clear hR
          have e9 := hout 9 (by decide)
          clear hout hdep
          refine op_list (by rfl) ?_
          go_wp2
          exact withK_intro ⟨_, rfl, Below.refl _ _, HR.out, rfl⟩
        · have HR := Lib.hid hR
          clear hR
          have e53 : a.tmps[53]? = some (.int .i64 (0)) := flow_dep hdep 0 53 (by kernel_rfl) rfl
          clear hout hdep
          refine op_list (by rfl) ?_
          go_wp2
          exact withK_intro ⟨_, rfl, Below.refl _ _, HR.out, rfl⟩
        · have HR := Lib.hid hR
          clear hR
          have e54 : a.tmps[54]? = some (.bool false) := flow_dep hdep 1 54 (by kernel_rfl) rfl
          clear hout hdep
          refine op_list (by rfl) ?_
          go_wp2
          exact withK_intro ⟨_, rfl, Below.refl _ _, HR.out, rfl⟩
        · have HR := Lib.hid hR
          clear hR
          have e8 := hout 8 (by decide)
          have e55 : a.tmps[55]? = some (.bool false) := flow_dep hdep 2 55 (by kernel_rfl) rfl
          clear hout hdep
          refine op_list (by rfl) ?_
          go_wp2
          exact withK_intro ⟨_, rfl, Below.refl _ _, HR.out, rfl⟩
        · have HR := Lib.hid hR
          clear hR
          have e56 : a.tmps[56]? = some (.pointer (some ⟨dB, 0, none⟩)) := flow_dep hdep 3 56 (by kernel_rfl) rfl
          have e55 : a.tmps[55]? = some (.bool false) := flow_dep hdep 2 55 (by kernel_rfl) rfl
          have z0 := cell_below HR HD0.out
          clear hout hdep
          refine op_list (by rfl) ?_
          go_wp2
          exact withK_intro ⟨_, rfl, Below.refl _ _, HR.out, rfl⟩
        · have HR := Lib.hid hR
          clear hR
          have e57 : a.tmps[57]? = some (.slice (some ⟨db, dof, none⟩) m uc) := flow_dep hdep 4 57 (by kernel_rfl) rfl
          have e55 : a.tmps[55]? = some (.bool false) := flow_dep hdep 2 55 (by kernel_rfl) rfl
          clear hout hdep
          refine op_list (by rfl) ?_
          go_wp2
          exact withK_intro ⟨_, rfl, Below.refl _ _, HR.out, rfl⟩
        · have HR := Lib.hid hR
          clear hR
          have e4 := hout 4 (by decide)
          have e55 : a.tmps[55]? = some (.bool false) := flow_dep hdep 2 55 (by kernel_rfl) rfl
          clear hout hdep
          refine op_list (by rfl) ?_
          go_wp2
          exact withK_intro ⟨_, rfl, Below.refl _ _, HR.out, rfl⟩
        · have HR := Lib.hid hR
          clear hR
          have e59 : a.tmps[59]? = some (.pointer (some ⟨cB, 0, none⟩)) := flow_dep hdep 6 59 (by kernel_rfl) rfl
          have e55 : a.tmps[55]? = some (.bool false) := flow_dep hdep 2 55 (by kernel_rfl) rfl
          have z0 := cell_below HR HC0.out
          clear hout hdep
          refine op_list (by rfl) ?_
          go_wp2
          exact withK_intro ⟨_, rfl, Below.refl _ _, HR.out, rfl⟩
        · have HR := Lib.hid hR
          clear hR
          have e60 : a.tmps[60]? = some (.slice (some ⟨cb, co, none⟩) m vc) := flow_dep hdep 7 60 (by kernel_rfl) rfl
          have e55 : a.tmps[55]? = some (.bool false) := flow_dep hdep 2 55 (by kernel_rfl) rfl
          clear hout hdep
          refine op_list (by rfl) ?_
          go_wp2
          exact withK_intro ⟨_, rfl, Below.refl _ _, HR.out, rfl⟩
        · have HR := Lib.hid hR
          clear hR
          have e58 : a.tmps[58]? = some (.int .i64 (m : Int)) := flow_dep hdep 5 58 (by kernel_rfl) rfl
          have e61 : a.tmps[61]? = some (.int .i64 (m : Int)) := flow_dep hdep 8 61 (by kernel_rfl) rfl
          have e55 : a.tmps[55]? = some (.bool false) := flow_dep hdep 2 55 (by kernel_rfl) rfl
          clear hout hdep
          refine op_list (by rfl) ?_
          go_wp2
          exact withK_intro ⟨_, rfl, Below.refl _ _, HR.out, rfl⟩
        · have HR := Lib.hid hR
          clear hR
          have e55 : a.tmps[55]? = some (.bool false) := flow_dep hdep 2 55 (by kernel_rfl) rfl
          have e62 : a.tmps[62]? = some (.bool false) := flow_dep hdep 9 62 (by kernel_rfl) rfl
          clear hout hdep
          refine op_list (by rfl) ?_
          go_wp2
          exact withK_intro ⟨_, rfl, Below.refl _ _, HR.out, rfl⟩
        · have HR := Lib.hid hR
          clear hR
          have e63 : a.tmps[63]? = some (.bool false) := flow_dep hdep 10 63 (by kernel_rfl) rfl
          clear hout hdep
          refine op_list (by rfl) ?_
          go_wp2
          exact withK_intro ⟨_, rfl, Below.refl _ _, HR.out, rfl⟩
        · have HR := Lib.hid hR
          clear hR
          have e4 := hout 4 (by decide)
          have e64 : a.tmps[64]? = some (.bool false) := flow_dep hdep 11 64 (by kernel_rfl) rfl
          clear hout hdep
          refine op_list (by rfl) ?_
          go_wp2
          exact withK_intro ⟨_, rfl, Below.refl _ _, HR.out, rfl⟩
        · have HR := Lib.hid hR
          clear hR
          have e65 : a.tmps[65]? = some (.pointer (some ⟨cB, 0, none⟩)) := flow_dep hdep 12 65 (by kernel_rfl) rfl
          have e64 : a.tmps[64]? = some (.bool false) := flow_dep hdep 11 64 (by kernel_rfl) rfl
          have z0 := cell_below HR HC0.out
          clear hout hdep
          refine op_list (by rfl) ?_
          go_wp2
          exact withK_intro ⟨_, rfl, Below.refl _ _, HR.out, rfl⟩
        · have HR := Lib.hid hR
          clear hR
          have e66 : a.tmps[66]? = some (.slice (some ⟨cb, co, none⟩) m vc) := flow_dep hdep 13 66 (by kernel_rfl) rfl
          have e64 : a.tmps[64]? = some (.bool false) := flow_dep hdep 11 64 (by kernel_rfl) rfl
          clear hout hdep
          refine op_list (by rfl) ?_
          go_wp2
          exact withK_intro ⟨_, rfl, Below.refl _ _, HR.out, rfl⟩
        · have HR := Lib.hid hR
          clear hR
          have e1 := hout 1 (by decide)
          have e64 : a.tmps[64]? = some (.bool false) := flow_dep hdep 11 64 (by kernel_rfl) rfl
          clear hout hdep
          refine op_list (by rfl) ?_
          go_wp2
          exact withK_intro ⟨_, rfl, Below.refl _ _, HR.out, rfl⟩
        · have HR := Lib.hid hR
          clear hR
          have e68 : a.tmps[68]? = some (.pointer (some ⟨w.heap.size, 0, none⟩)) := flow_dep hdep 15 68 (by kernel_rfl) rfl
          have e64 : a.tmps[64]? = some (.bool false) := flow_dep hdep 11 64 (by kernel_rfl) rfl
          have z0 := cell_below HR HP0.out
          clear hout hdep
          refine op_list (by rfl) ?_
          go_wp2
          exact withK_intro ⟨_, rfl, Below.refl _ _, HR.out, rfl⟩
        · have HR := Lib.hid hR
          clear hR
          have e69 : a.tmps[69]? = some (.slice a1 k k1) := flow_dep hdep 16 69 (by kernel_rfl) rfl
          have e64 : a.tmps[64]? = some (.bool false) := flow_dep hdep 11 64 (by kernel_rfl) rfl
          clear hout hdep
          refine op_list (by rfl) ?_
          go_wp2
          exact withK_intro ⟨_, rfl, Below.refl _ _, HR.out, rfl⟩
        · have HR := Lib.hid hR
          clear hR
          have e70 : a.tmps[70]? = some (.int .i64 (k : Int)) := flow_dep hdep 17 70 (by kernel_rfl) rfl
          have e64 : a.tmps[64]? = some (.bool false) := flow_dep hdep 11 64 (by kernel_rfl) rfl
          clear hout hdep
          refine op_list (by rfl) ?_
          go_wp2
          exact withK_intro ⟨_, rfl, Below.refl _ _, HR.out, rfl⟩
        · have HR := Lib.hid hR
          clear hR
          have e67 : a.tmps[67]? = some (.int .i64 (m : Int)) := flow_dep hdep 14 67 (by kernel_rfl) rfl
          have e71 : a.tmps[71]? = some (.int .i64 (m : Int)) := flow_dep hdep 18 71 (by kernel_rfl) rfl
          have e64 : a.tmps[64]? = some (.bool false) := flow_dep hdep 11 64 (by kernel_rfl) rfl
          clear hout hdep
          refine op_list (by rfl) ?_
          go_wp2
          exact withK_intro ⟨_, rfl, Below.refl _ _, HR.out, rfl⟩
        · have HR := Lib.hid hR
          clear hR
          have e64 : a.tmps[64]? = some (.bool false) := flow_dep hdep 11 64 (by kernel_rfl) rfl
          have e72 : a.tmps[72]? = some (.bool false) := flow_dep hdep 19 72 (by kernel_rfl) rfl
          clear hout hdep
          refine op_list (by rfl) ?_
          go_wp2
          exact withK_intro ⟨_, rfl, Below.refl _ _, HR.out, rfl⟩
        · have HR := Lib.hid hR
          clear hR
          have e73 : a.tmps[73]? = some (.bool false) := flow_dep hdep 20 73 (by kernel_rfl) rfl
          clear hout hdep
          refine op_list (by rfl) ?_
          go_wp2
          exact withK_intro ⟨_, rfl, Below.refl _ _, HR.out, rfl⟩
        · have HR := Lib.hid hR
          clear hR
          have e8 := hout 8 (by decide)
          have e74 : a.tmps[74]? = some (.bool false) := flow_dep hdep 21 74 (by kernel_rfl) rfl
          clear hout hdep
          refine op_list (by rfl) ?_
          go_wp2
          exact withK_intro ⟨_, rfl, Below.refl _ _, HR.out, rfl⟩
        · have HR := Lib.hid hR
          clear hR
          have e75 : a.tmps[75]? = some (.pointer (some ⟨dB, 0, none⟩)) := flow_dep hdep 22 75 (by kernel_rfl) rfl
          have e74 : a.tmps[74]? = some (.bool false) := flow_dep hdep 21 74 (by kernel_rfl) rfl
          have z0 := cell_below HR HD0.out
          clear hout hdep
          refine op_list (by rfl) ?_
          go_wp2
          exact withK_intro ⟨_, rfl, Below.refl _ _, HR.out, rfl⟩
        · have HR := Lib.hid hR
          clear hR
          have e76 : a.tmps[76]? = some (.slice (some ⟨db, dof, none⟩) m uc) := flow_dep hdep 23 76 (by kernel_rfl) rfl
          have e74 : a.tmps[74]? = some (.bool false) := flow_dep hdep 21 74 (by kernel_rfl) rfl
          clear hout hdep
          refine op_list (by rfl) ?_
          go_wp2
          exact withK_intro ⟨_, rfl, Below.refl _ _, HR.out, rfl⟩
        · have HR := Lib.hid hR
          clear hR
          have e77 : a.tmps[77]? = some (.pointer (some ⟨db, dof, none⟩)) := flow_dep hdep 24 77 (by kernel_rfl) rfl
          have e74 : a.tmps[74]? = some (.bool false) := flow_dep hdep 21 74 (by kernel_rfl) rfl
          clear hout hdep
          refine op_list (by rfl) ?_
          go_wp2
          exact withK_intro ⟨_, rfl, Below.refl _ _, HR.out, rfl⟩
        · have HR := Lib.hid hR
          clear hR
          have e78 : a.tmps[78]? = some (.pointer (some ⟨db, dof + 4, none⟩)) := flow_dep hdep 25 78 (by kernel_rfl) rfl
          have e74 : a.tmps[74]? = some (.bool false) := flow_dep hdep 21 74 (by kernel_rfl) rfl
          have z0 := cell_below HR HD4.out
          clear hout hdep
          refine op_list (by rfl) ?_
          go_wp2
          exact withK_intro ⟨_, rfl, Below.refl _ _, HR.out, rfl⟩
        · have HR := Lib.hid hR
          clear hR
          have e79 : a.tmps[79]? = some (.slice xa n0 xc) := flow_dep hdep 26 79 (by kernel_rfl) rfl
          have e74 : a.tmps[74]? = some (.bool false) := flow_dep hdep 21 74 (by kernel_rfl) rfl
          clear hout hdep
          refine op_list (by rfl) ?_
          go_wp2_with (go_at_call 9; refine (text_v _ _ _ L HTX.out.1 HTX.out.2.1 _ HTX.out.2.2 _ (HID.out.stay HR.out) (HTC.out.below HR.out).code).mono ?_; rintro e w' ⟨rfl, hb⟩; have HBc := Lib.hid hb; clear hb)
          exact withK_intro ⟨_, rfl, HBc.out, HR.out.trans (HBc.out.mono HR.out.size), rfl⟩
        · have HR := Lib.hid hR
          clear hR
          have e4 := hout 4 (by decide)
          have e74 : a.tmps[74]? = some (.bool false) := flow_dep hdep 21 74 (by kernel_rfl) rfl
          clear hout hdep
          refine op_list (by rfl) ?_
          go_wp2
          exact withK_intro ⟨_, rfl, Below.refl _ _, HR.out, rfl⟩
        · have HR := Lib.hid hR
          clear hR
          have e81 : a.tmps[81]? = some (.pointer (some ⟨cB, 0, none⟩)) := flow_dep hdep 28 81 (by kernel_rfl) rfl
          have e74 : a.tmps[74]? = some (.bool false) := flow_dep hdep 21 74 (by kernel_rfl) rfl
          have z0 := cell_below HR HC0.out
          clear hout hdep
          refine op_list (by rfl) ?_
          go_wp2
          exact withK_intro ⟨_, rfl, Below.refl _ _, HR.out, rfl⟩
        · have HR := Lib.hid hR
          clear hR
          have e82 : a.tmps[82]? = some (.slice (some ⟨cb, co, none⟩) m vc) := flow_dep hdep 29 82 (by kernel_rfl) rfl
          have e74 : a.tmps[74]? = some (.bool false) := flow_dep hdep 21 74 (by kernel_rfl) rfl
          clear hout hdep
          refine op_list (by rfl) ?_
          go_wp2
          exact withK_intro ⟨_, rfl, Below.refl _ _, HR.out, rfl⟩
        · have HR := Lib.hid hR
          clear hR
          have e83 : a.tmps[83]? = some (.pointer (some ⟨cb, co, none⟩)) := flow_dep hdep 30 83 (by kernel_rfl) rfl
          have e74 : a.tmps[74]? = some (.bool false) := flow_dep hdep 21 74 (by kernel_rfl) rfl
          clear hout hdep
          refine op_list (by rfl) ?_
          go_wp2
          exact withK_intro ⟨_, rfl, Below.refl _ _, HR.out, rfl⟩
        · have HR := Lib.hid hR
          clear hR
          have e84 : a.tmps[84]? = some (.pointer (some ⟨cb, co + 4, none⟩)) := flow_dep hdep 31 84 (by kernel_rfl) rfl
          have e74 : a.tmps[74]? = some (.bool false) := flow_dep hdep 21 74 (by kernel_rfl) rfl
          have z0 := cell_below HR HC4.out
          clear hout hdep
          refine op_list (by rfl) ?_
          go_wp2
          exact withK_intro ⟨_, rfl, Below.refl _ _, HR.out, rfl⟩
        · have HR := Lib.hid hR
          clear hR
          have e85 : a.tmps[85]? = some (.slice ca n0 cc) := flow_dep hdep 32 85 (by kernel_rfl) rfl
          have e74 : a.tmps[74]? = some (.bool false) := flow_dep hdep 21 74 (by kernel_rfl) rfl
          clear hout hdep
          refine op_list (by rfl) ?_
          go_wp2_with (go_at_call 9; refine (text_v _ _ _ L HTX.out.1 HTX.out.2.1 _ HTX.out.2.2 _ (HIC.out.stay HR.out) (HTC.out.below HR.out).code).mono ?_; rintro e w' ⟨rfl, hb⟩; have HBc := Lib.hid hb; clear hb)
          exact withK_intro ⟨_, rfl, HBc.out, HR.out.trans (HBc.out.mono HR.out.size), rfl⟩
        · have HR := Lib.hid hR
          clear hR
          have e80 : a.tmps[80]? = some (.string s) := flow_dep hdep 27 80 (by kernel_rfl) rfl
          have e86 : a.tmps[86]? = some (.string s) := flow_dep hdep 33 86 (by kernel_rfl) rfl
          have e74 : a.tmps[74]? = some (.bool false) := flow_dep hdep 21 74 (by kernel_rfl) rfl
          clear hout hdep
          refine op_list (by rfl) ?_
          go_wp2
          exact withK_intro ⟨_, rfl, Below.refl _ _, HR.out, rfl⟩
      case hl11 =>
        intro vs wx hR hφ
        have HR := Lib.hid hR
        clear hR
        rw [fill_congr _ [53, 54, 55, 56, 57, 58, 59, 60, 61, 62, 63, 64, 65, 66, 67, 68, 69, 70, 71, 72, 73, 74, 75, 76, 77, 78, 79, 80, 81, 82, 83, 84, 85, 86, 87] vs (fun j => ([.int .i64 (0), .bool false, .bool false, .pointer (some ⟨dB, 0, none⟩), .slice (some ⟨db, dof, none⟩) m uc, .int .i64 (m : Int), .pointer (some ⟨cB, 0, none⟩), .slice (some ⟨cb, co, none⟩) m vc, .int .i64 (m : Int), .bool false, .bool false, .bool false, .pointer (some ⟨cB, 0, none⟩), .slice (some ⟨cb, co, none⟩) m vc, .int .i64 (m : Int), .pointer (some ⟨w.heap.size, 0, none⟩), .slice a1 k k1, .int .i64 (k : Int), .int .i64 (m : Int), .bool false, .bool false, .bool false, .pointer (some ⟨dB, 0, none⟩), .slice (some ⟨db, dof, none⟩) m uc, .pointer (some ⟨db, dof, none⟩), .pointer (some ⟨db, dof + 4, none⟩), .slice xa n0 xc, .string s, .pointer (some ⟨cB, 0, none⟩), .slice (some ⟨cb, co, none⟩) m vc, .pointer (some ⟨cb, co, none⟩), .pointer (some ⟨cb, co + 4, none⟩), .slice ca n0 cc, .string s, .bool false] : List Value).getD j undef) (fun j hj => hφ j hj)]
        clear hφ vs
        refine op_list (by rfl) ?_
        simp only [fill, fillA, List.getD_cons_zero, List.getD_cons_succ, Nat.reduceAdd]
        have HB5 : Hid (Below W3.heap.size W3 wx) := HR
        have HV5 := Lib.hid (HV3.out.stay HB5.out)
        have HU5 := Lib.hid (HU3.out.stay HB5.out)
        have HXC5 := Lib.hid ((HB5.out.block _ (lt_of_heap HXC3.out)).trans HXC3.out)
        have HXD5 := Lib.hid ((HB5.out.block _ (lt_of_heap HXD3.out)).trans HXD3.out)
        have HBW : Hid (Below w.heap.size w wx) := HB3.out.trans (HB5.out.mono HB3.out.size)
        have HT5 : Hid (TabAll wx mb mn) := HT.out.below HBW.out
        clear HTX HC0 HD0 HP0 HC4 HD4 HIC HID HTC HV3 HU3 HXC3 HXD3 HXP3 hmn hm0
        simp only [List.setIfInBounds_toArray, List.set_cons_succ, List.set_cons_zero]
        go_wp2_with fail
        refine withK_intro ?_
        obtain ⟨w5, rfl⟩ : ∃ z, z = wx := ⟨_, rfl⟩
        have e0 : w5.cell? ⟨dB, 0, none⟩ = some (.slice (some ⟨db, dof, none⟩) m uc) := cell_of_heap HXD5.out 0
        go_wp2_with fail
        go_loopw [10] (fun i wr => ∃ k : Nat, i = .int .i64 k ∧ 1 ≤ k ∧ k ≤ m ∧ Hid (Below w5.heap.size w5 wr)) (fun i _ => m - (intOf i).toNat)
        case atStart => exact ⟨1, rfl, Nat.le_refl _, hm1, Below.refl _ _⟩
        case round =>
          clear e0
          obtain ⟨k9, rfl, hk1, hk, HBk⟩ := hrel
          obtain ⟨wq, rfl⟩ : ∃ z, z = wr := ⟨_, rfl⟩
          have HXDk := Lib.hid ((HBk.out.block _ (lt_of_heap HXD5.out)).trans HXD5.out)
          have d0 : wq.cell? ⟨dB, 0, none⟩ = some (.slice (some ⟨db, dof, none⟩) m uc) := cell_of_heap HXDk.out 0
          by_cases hlt : k9 < m
          · obtain ⟨-, cb', co', ca', cc', hce, ⟨q0, q1, -, -, -⟩, -⟩ := (HV5.out.stay HBk.out).at9 k9 hlt
            obtain ⟨-, db', do', xa', xc', hde, ⟨r0, r1, r2, -, r4⟩, hid⟩ := (HU5.out.stay HBk.out).at9 k9 hlt
            cases hce
            cases hde
            rw [bare_code HR0.out k9 (by omega) (by rw [p.code_len9, HM.out]; exact hlt)] at r0 r1 r2 r4 hid
            dsimp only at r0 r1 r2 r4 hid
            generalize (p.code.getD k9 default).name = nm at q0 r0
            generalize (p.code.getD k9 default).params = pr at q1 r1 r2
            have HC0 : Hid (wq.cell? ⟨cB, 0, none⟩ = some (.slice (some ⟨cb, co, none⟩) m vc)) := cell_of_heap ((HBk.out.block _ (lt_of_heap HXC5.out)).trans HXC5.out) 0
            have HD0 := Lib.hid d0
            have HCn := Lib.hid q0
            have HC1 := Lib.hid q1
            have HDn := Lib.hid r0
            have HD1 := Lib.hid r1
            have HD2 := Lib.hid r2
            have HD4 : Hid (wq.cell? ⟨db, dof + k9 * 5 + 4, none⟩ = some (.slice xa' 2 xc')) := r4
            have HID : Hid (ISl wq (.slice xa' 2 xc') [⟨1, 0, 0⟩, ⟨18, 0, 0⟩]) := hid
            have HTC : Hid (TabAll wq mb mn) := HT5.out.below HBk.out
            have hltI : (k9 : Int) < m := by omega
            clear q0 q1 r0 r1 r2 r4 hid
            go_wp2_with fail
            refine region_flow rfl 52 rfl (by decide +kernel) [96, 97, 98, 99, 100, 101, 102, 103, 104, 105, 106, 107, 108, 109, 110, 111, 112, 113, 114, 115, 116, 117, 118, 119, 120, 121, 122, 123, 124, 125, 126, 127, 128, 129, 130, 131, 132, 133, 134, 135, 136, 137, 138, 139, 140, 141, 142, 143, 144, 145, 146, 147] (by decide +kernel) rfl (by decide) (by simp) (fun w w' => Below w.heap.size w w') (fun w => Below wq.heap.size wq w)
              (fun j v _ => v = ([.pointer (some ⟨dB, 0, none⟩), .slice (some ⟨db, dof, none⟩) m uc, .int .i64 (k9 : Int), .pointer (some ⟨db, dof + k9 * 5, none⟩), .pointer (some ⟨db, dof + k9 * 5 + 4, none⟩), .slice xa' 2 xc', .string ⟨#[48, 32, 112, 117, 115, 104, 32, 48, 10, 49, 32, 114, 101, 116, 117, 114, 110, 10]⟩, .bool false, .bool false, .pointer (some ⟨dB, 0, none⟩), .slice (some ⟨db, dof, none⟩) m uc, .int .i64 (k9 : Int), .pointer (some ⟨db, dof + k9 * 5, none⟩), .pointer (some ⟨db, dof + k9 * 5 + 1, none⟩), .int .i64 pr, .pointer (some ⟨cB, 0, none⟩), .slice (some ⟨cb, co, none⟩) m vc, .int .i64 (k9 : Int), .pointer (some ⟨cb, co + k9 * 5, none⟩), .pointer (some ⟨cb, co + k9 * 5 + 1, none⟩), .int .i64 pr, .bool false, .bool false, .bool false, .pointer (some ⟨dB, 0, none⟩), .slice (some ⟨db, dof, none⟩) m uc, .int .i64 (k9 : Int), .pointer (some ⟨db, dof + k9 * 5, none⟩), .pointer (some ⟨db, dof + k9 * 5, none⟩), .string nm, .pointer (some ⟨cB, 0, none⟩), .slice (some ⟨cb, co, none⟩) m vc, .int .i64 (k9 : Int), .pointer (some ⟨cb, co + k9 * 5, none⟩), .pointer (some ⟨cb, co + k9 * 5, none⟩), .string nm, .bool false, .bool false, .bool false, .pointer (some ⟨dB, 0, none⟩), .slice (some ⟨db, dof, none⟩) m uc, .int .i64 (k9 : Int), .pointer (some ⟨db, dof + k9 * 5, none⟩), .pointer (some ⟨db, dof + k9 * 5 + 2, none⟩), .int .i64 pr, .pointer (some ⟨dB, 0, none⟩), .slice (some ⟨db, dof, none⟩) m uc, .int .i64 (k9 : Int), .pointer (some ⟨db, dof + k9 * 5, none⟩), .pointer (some ⟨db, dof + k9 * 5 + 1, none⟩), .int .i64 pr, .bool false] : List Value).getD j undef) (fun _ _ _ _ _ h => h) ?hr16 ?hs16 ?hl16
            case hs16 =>
              intro ix hix a wx hR hout hdep
              have hix' : ix = 0 ∨ ix = 1 ∨ ix = 2 ∨ ix = 3 ∨ ix = 4 ∨ ix = 5 ∨ ix = 6 ∨ ix = 7 ∨ ix = 8 ∨ ix = 9 ∨ ix = 10 ∨ ix = 11 ∨ ix = 12 ∨ ix = 13 ∨ ix = 14 ∨ ix = 15 ∨ ix = 16 ∨ ix = 17 ∨ ix = 18 ∨ ix = 19 ∨ ix = 20 ∨ ix = 21 ∨ ix = 22 ∨ ix = 23 ∨ ix = 24 ∨ ix = 25 ∨ ix = 26 ∨ ix = 27 ∨ ix = 28 ∨ ix = 29 ∨ ix = 30 ∨ ix = 31 ∨ ix = 32 ∨ ix = 33 ∨ ix = 34 ∨ ix = 35 ∨ ix = 36 ∨ ix = 37 ∨ ix = 38 ∨ ix = 39 ∨ ix = 40 ∨ ix = 41 ∨ ix = 42 ∨ ix = 43 ∨ ix = 44 ∨ ix = 45 ∨ ix = 46 ∨ ix = 47 ∨ ix = 48 ∨ ix = 49 ∨ ix = 50 ∨ ix = 51 := by omega
              rcases hix' with rfl | rfl | rfl | rfl | rfl | rfl | rfl | rfl | rfl | rfl | rfl | rfl | rfl | rfl | rfl | rfl | rfl | rfl | rfl | rfl | rfl | rfl | rfl | rfl | rfl | rfl | rfl | rfl | rfl | rfl | rfl | rfl | rfl | rfl | rfl | rfl | rfl | rfl | rfl | rfl | rfl | rfl | rfl | rfl | rfl | rfl | rfl | rfl | rfl | rfl | rfl | rfl
              · have HR := Lib.hid hR
                clear hR
                have e8 := hout 8 (by decide)
                clear hout hdep
                refine op_list (by rfl) ?_
                go_wp2
                exact withK_intro ⟨_, rfl, Below.refl _ _, HR.out, rfl⟩
              · have HR := Lib.hid hR
                clear hR
                have e96 : a.tmps[96]? = some (.pointer (some ⟨dB, 0, none⟩)) := flow_dep hdep 0 96 (by kernel_rfl) rfl
                have z0 := cell_below HR HD0.out
                clear hout hdep
                refine op_list (by rfl) ?_
                go_wp2
                exact withK_intro ⟨_, rfl, Below.refl _ _, HR.out, rfl⟩
              · have HR := Lib.hid hR
                clear hR
                have e10 := hout 10 (by decide)
                clear hout hdep
                refine op_list (by rfl) ?_
                go_wp2
                exact withK_intro ⟨_, rfl, Below.refl _ _, HR.out, rfl⟩
              · have HR := Lib.hid hR
                clear hR
                have e97 : a.tmps[97]? = some (.slice (some ⟨db, dof, none⟩) m uc) := flow_dep hdep 1 97 (by kernel_rfl) rfl
                have e98 : a.tmps[98]? = some (.int .i64 (k9 : Int)) := flow_dep hdep 2 98 (by kernel_rfl) rfl
                clear hout hdep
                refine op_list (by rfl) ?_
                go_wp2
                exact withK_intro ⟨_, rfl, Below.refl _ _, HR.out, rfl⟩
              · have HR := Lib.hid hR
                clear hR
                have e99 : a.tmps[99]? = some (.pointer (some ⟨db, dof + k9 * 5, none⟩)) := flow_dep hdep 3 99 (by kernel_rfl) rfl
                clear hout hdep
                refine op_list (by rfl) ?_
                go_wp2
                exact withK_intro ⟨_, rfl, Below.refl _ _, HR.out, rfl⟩
              · have HR := Lib.hid hR
                clear hR
                have e100 : a.tmps[100]? = some (.pointer (some ⟨db, dof + k9 * 5 + 4, none⟩)) := flow_dep hdep 4 100 (by kernel_rfl) rfl
                have z0 := cell_below HR HD4.out
                clear hout hdep
                refine op_list (by rfl) ?_
                go_wp2
                exact withK_intro ⟨_, rfl, Below.refl _ _, HR.out, rfl⟩
              · have HR := Lib.hid hR
                clear hR
                have e101 : a.tmps[101]? = some (.slice xa' 2 xc') := flow_dep hdep 5 101 (by kernel_rfl) rfl
                clear hout hdep
                refine op_list (by rfl) ?_
                go_wp2_with (go_at_call 9; refine (text_v _ _ _ [⟨1, 0, 0⟩, ⟨18, 0, 0⟩] (by decide) bare_rg _ bareT_is _ (HID.out.stay HR.out) (HTC.out.below HR.out).code).mono ?_; rintro e w' ⟨rfl, hb⟩; have HBc := Lib.hid hb; clear hb)
                exact withK_intro ⟨_, rfl, HBc.out, HR.out.trans (HBc.out.mono HR.out.size), rfl⟩
              · have HR := Lib.hid hR
                clear hR
                have e102 : a.tmps[102]? = some (.string ⟨#[48, 32, 112, 117, 115, 104, 32, 48, 10, 49, 32, 114, 101, 116, 117, 114, 110, 10]⟩) := flow_dep hdep 6 102 (by kernel_rfl) rfl
                clear hout hdep
                refine op_list (by rfl) ?_
                go_wp2
                exact withK_intro ⟨_, rfl, Below.refl _ _, HR.out, rfl⟩
              · have HR := Lib.hid hR
                clear hR
                have e103 : a.tmps[103]? = some (.bool false) := flow_dep hdep 7 103 (by kernel_rfl) rfl
                clear hout hdep
                refine op_list (by rfl) ?_
                go_wp2
                exact withK_intro ⟨_, rfl, Below.refl _ _, HR.out, rfl⟩
              · have HR := Lib.hid hR
                clear hR
                have e8 := hout 8 (by decide)
                have e104 : a.tmps[104]? = some (.bool false) := flow_dep hdep 8 104 (by kernel_rfl) rfl
                clear hout hdep
                refine op_list (by rfl) ?_
                go_wp2
                exact withK_intro ⟨_, rfl, Below.refl _ _, HR.out, rfl⟩
              · have HR := Lib.hid hR
                clear hR
                have e105 : a.tmps[105]? = some (.pointer (some ⟨dB, 0, none⟩)) := flow_dep hdep 9 105 (by kernel_rfl) rfl
                have e104 : a.tmps[104]? = some (.bool false) := flow_dep hdep 8 104 (by kernel_rfl) rfl
                have z0 := cell_below HR HD0.out
                clear hout hdep
                refine op_list (by rfl) ?_
                go_wp2
                exact withK_intro ⟨_, rfl, Below.refl _ _, HR.out, rfl⟩
              · have HR := Lib.hid hR
                clear hR
                have e10 := hout 10 (by decide)
                have e104 : a.tmps[104]? = some (.bool false) := flow_dep hdep 8 104 (by kernel_rfl) rfl
                clear hout hdep
                refine op_list (by rfl) ?_
                go_wp2
                exact withK_intro ⟨_, rfl, Below.refl _ _, HR.out, rfl⟩
              · have HR := Lib.hid hR
                clear hR
                have e106 : a.tmps[106]? = some (.slice (some ⟨db, dof, none⟩) m uc) := flow_dep hdep 10 106 (by kernel_rfl) rfl
                have e107 : a.tmps[107]? = some (.int .i64 (k9 : Int)) := flow_dep hdep 11 107 (by kernel_rfl) rfl
                have e104 : a.tmps[104]? = some (.bool false) := flow_dep hdep 8 104 (by kernel_rfl) rfl
                clear hout hdep
                refine op_list (by rfl) ?_
                go_wp2
                exact withK_intro ⟨_, rfl, Below.refl _ _, HR.out, rfl⟩
              · have HR := Lib.hid hR
                clear hR
                have e108 : a.tmps[108]? = some (.pointer (some ⟨db, dof + k9 * 5, none⟩)) := flow_dep hdep 12 108 (by kernel_rfl) rfl
                have e104 : a.tmps[104]? = some (.bool false) := flow_dep hdep 8 104 (by kernel_rfl) rfl
                clear hout hdep
                refine op_list (by rfl) ?_
                go_wp2
                exact withK_intro ⟨_, rfl, Below.refl _ _, HR.out, rfl⟩
              · have HR := Lib.hid hR
                clear hR
                have e109 : a.tmps[109]? = some (.pointer (some ⟨db, dof + k9 * 5 + 1, none⟩)) := flow_dep hdep 13 109 (by kernel_rfl) rfl
                have e104 : a.tmps[104]? = some (.bool false) := flow_dep hdep 8 104 (by kernel_rfl) rfl
                have z0 := cell_below HR HD1.out
                clear hout hdep
                refine op_list (by rfl) ?_
                go_wp2
                exact withK_intro ⟨_, rfl, Below.refl _ _, HR.out, rfl⟩
              · have HR := Lib.hid hR
                clear hR
                have e4 := hout 4 (by decide)
                have e104 : a.tmps[104]? = some (.bool false) := flow_dep hdep 8 104 (by kernel_rfl) rfl
                clear hout hdep
                refine op_list (by rfl) ?_
                go_wp2
                exact withK_intro ⟨_, rfl, Below.refl _ _, HR.out, rfl⟩
              · have HR := Lib.hid hR
                clear hR
                have e111 : a.tmps[111]? = some (.pointer (some ⟨cB, 0, none⟩)) := flow_dep hdep 15 111 (by kernel_rfl) rfl
                have e104 : a.tmps[104]? = some (.bool false) := flow_dep hdep 8 104 (by kernel_rfl) rfl
                have z0 := cell_below HR HC0.out
                clear hout hdep
                refine op_list (by rfl) ?_
                go_wp2
                exact withK_intro ⟨_, rfl, Below.refl _ _, HR.out, rfl⟩
              · have HR := Lib.hid hR
                clear hR
                have e10 := hout 10 (by decide)
                have e104 : a.tmps[104]? = some (.bool false) := flow_dep hdep 8 104 (by kernel_rfl) rfl
                clear hout hdep
                refine op_list (by rfl) ?_
                go_wp2
                exact withK_intro ⟨_, rfl, Below.refl _ _, HR.out, rfl⟩
              · have HR := Lib.hid hR
                clear hR
                have e112 : a.tmps[112]? = some (.slice (some ⟨cb, co, none⟩) m vc) := flow_dep hdep 16 112 (by kernel_rfl) rfl
                have e113 : a.tmps[113]? = some (.int .i64 (k9 : Int)) := flow_dep hdep 17 113 (by kernel_rfl) rfl
                have e104 : a.tmps[104]? = some (.bool false) := flow_dep hdep 8 104 (by kernel_rfl) rfl
                clear hout hdep
                refine op_list (by rfl) ?_
                go_wp2
                exact withK_intro ⟨_, rfl, Below.refl _ _, HR.out, rfl⟩
              · have HR := Lib.hid hR
                clear hR
                have e114 : a.tmps[114]? = some (.pointer (some ⟨cb, co + k9 * 5, none⟩)) := flow_dep hdep 18 114 (by kernel_rfl) rfl
                have e104 : a.tmps[104]? = some (.bool false) := flow_dep hdep 8 104 (by kernel_rfl) rfl
                clear hout hdep
                refine op_list (by rfl) ?_
                go_wp2
                exact withK_intro ⟨_, rfl, Below.refl _ _, HR.out, rfl⟩
              · have HR := Lib.hid hR
                clear hR
                have e115 : a.tmps[115]? = some (.pointer (some ⟨cb, co + k9 * 5 + 1, none⟩)) := flow_dep hdep 19 115 (by kernel_rfl) rfl
                have e104 : a.tmps[104]? = some (.bool false) := flow_dep hdep 8 104 (by kernel_rfl) rfl
                have z0 := cell_below HR HC1.out
                clear hout hdep
                refine op_list (by rfl) ?_
                go_wp2
                exact withK_intro ⟨_, rfl, Below.refl _ _, HR.out, rfl⟩
              · have HR := Lib.hid hR
                clear hR
                have e110 : a.tmps[110]? = some (.int .i64 pr) := flow_dep hdep 14 110 (by kernel_rfl) rfl
                have e116 : a.tmps[116]? = some (.int .i64 pr) := flow_dep hdep 20 116 (by kernel_rfl) rfl
                have e104 : a.tmps[104]? = some (.bool false) := flow_dep hdep 8 104 (by kernel_rfl) rfl
                clear hout hdep
                refine op_list (by rfl) ?_
                go_wp2
                exact withK_intro ⟨_, rfl, Below.refl _ _, HR.out, rfl⟩
              · have HR := Lib.hid hR
                clear hR
                have e104 : a.tmps[104]? = some (.bool false) := flow_dep hdep 8 104 (by kernel_rfl) rfl
                have e117 : a.tmps[117]? = some (.bool false) := flow_dep hdep 21 117 (by kernel_rfl) rfl
                clear hout hdep
                refine op_list (by rfl) ?_
                go_wp2
                exact withK_intro ⟨_, rfl, Below.refl _ _, HR.out, rfl⟩
              · have HR := Lib.hid hR
                clear hR
                have e118 : a.tmps[118]? = some (.bool false) := flow_dep hdep 22 118 (by kernel_rfl) rfl
                clear hout hdep
                refine op_list (by rfl) ?_
                go_wp2
                exact withK_intro ⟨_, rfl, Below.refl _ _, HR.out, rfl⟩
              · have HR := Lib.hid hR
                clear hR
                have e8 := hout 8 (by decide)
                have e119 : a.tmps[119]? = some (.bool false) := flow_dep hdep 23 119 (by kernel_rfl) rfl
                clear hout hdep
                refine op_list (by rfl) ?_
                go_wp2
                exact withK_intro ⟨_, rfl, Below.refl _ _, HR.out, rfl⟩
              · have HR := Lib.hid hR
                clear hR
                have e120 : a.tmps[120]? = some (.pointer (some ⟨dB, 0, none⟩)) := flow_dep hdep 24 120 (by kernel_rfl) rfl
                have e119 : a.tmps[119]? = some (.bool false) := flow_dep hdep 23 119 (by kernel_rfl) rfl
                have z0 := cell_below HR HD0.out
                clear hout hdep
                refine op_list (by rfl) ?_
                go_wp2
                exact withK_intro ⟨_, rfl, Below.refl _ _, HR.out, rfl⟩
              · have HR := Lib.hid hR
                clear hR
                have e10 := hout 10 (by decide)
                have e119 : a.tmps[119]? = some (.bool false) := flow_dep hdep 23 119 (by kernel_rfl) rfl
                clear hout hdep
                refine op_list (by rfl) ?_
                go_wp2
                exact withK_intro ⟨_, rfl, Below.refl _ _, HR.out, rfl⟩
              · have HR := Lib.hid hR
                clear hR
                have e121 : a.tmps[121]? = some (.slice (some ⟨db, dof, none⟩) m uc) := flow_dep hdep 25 121 (by kernel_rfl) rfl
                have e122 : a.tmps[122]? = some (.int .i64 (k9 : Int)) := flow_dep hdep 26 122 (by kernel_rfl) rfl
                have e119 : a.tmps[119]? = some (.bool false) := flow_dep hdep 23 119 (by kernel_rfl) rfl
                clear hout hdep
                refine op_list (by rfl) ?_
                go_wp2
                exact withK_intro ⟨_, rfl, Below.refl _ _, HR.out, rfl⟩
              · have HR := Lib.hid hR
                clear hR
                have e123 : a.tmps[123]? = some (.pointer (some ⟨db, dof + k9 * 5, none⟩)) := flow_dep hdep 27 123 (by kernel_rfl) rfl
                have e119 : a.tmps[119]? = some (.bool false) := flow_dep hdep 23 119 (by kernel_rfl) rfl
                clear hout hdep
                refine op_list (by rfl) ?_
                go_wp2
                exact withK_intro ⟨_, rfl, Below.refl _ _, HR.out, rfl⟩
              · have HR := Lib.hid hR
                clear hR
                have e124 : a.tmps[124]? = some (.pointer (some ⟨db, dof + k9 * 5, none⟩)) := flow_dep hdep 28 124 (by kernel_rfl) rfl
                have e119 : a.tmps[119]? = some (.bool false) := flow_dep hdep 23 119 (by kernel_rfl) rfl
                have z0 := cell_below HR HDn.out
                clear hout hdep
                refine op_list (by rfl) ?_
                go_wp2
                exact withK_intro ⟨_, rfl, Below.refl _ _, HR.out, rfl⟩
              · have HR := Lib.hid hR
                clear hR
                have e4 := hout 4 (by decide)
                have e119 : a.tmps[119]? = some (.bool false) := flow_dep hdep 23 119 (by kernel_rfl) rfl
                clear hout hdep
                refine op_list (by rfl) ?_
                go_wp2
                exact withK_intro ⟨_, rfl, Below.refl _ _, HR.out, rfl⟩
              · have HR := Lib.hid hR
                clear hR
                have e126 : a.tmps[126]? = some (.pointer (some ⟨cB, 0, none⟩)) := flow_dep hdep 30 126 (by kernel_rfl) rfl
                have e119 : a.tmps[119]? = some (.bool false) := flow_dep hdep 23 119 (by kernel_rfl) rfl
                have z0 := cell_below HR HC0.out
                clear hout hdep
                refine op_list (by rfl) ?_
                go_wp2
                exact withK_intro ⟨_, rfl, Below.refl _ _, HR.out, rfl⟩
              · have HR := Lib.hid hR
                clear hR
                have e10 := hout 10 (by decide)
                have e119 : a.tmps[119]? = some (.bool false) := flow_dep hdep 23 119 (by kernel_rfl) rfl
                clear hout hdep
                refine op_list (by rfl) ?_
                go_wp2
                exact withK_intro ⟨_, rfl, Below.refl _ _, HR.out, rfl⟩
              · have HR := Lib.hid hR
                clear hR
                have e127 : a.tmps[127]? = some (.slice (some ⟨cb, co, none⟩) m vc) := flow_dep hdep 31 127 (by kernel_rfl) rfl
                have e128 : a.tmps[128]? = some (.int .i64 (k9 : Int)) := flow_dep hdep 32 128 (by kernel_rfl) rfl
                have e119 : a.tmps[119]? = some (.bool false) := flow_dep hdep 23 119 (by kernel_rfl) rfl
                clear hout hdep
                refine op_list (by rfl) ?_
                go_wp2
                exact withK_intro ⟨_, rfl, Below.refl _ _, HR.out, rfl⟩
              · have HR := Lib.hid hR
                clear hR
                have e129 : a.tmps[129]? = some (.pointer (some ⟨cb, co + k9 * 5, none⟩)) := flow_dep hdep 33 129 (by kernel_rfl) rfl
                have e119 : a.tmps[119]? = some (.bool false) := flow_dep hdep 23 119 (by kernel_rfl) rfl
                clear hout hdep
                refine op_list (by rfl) ?_
                go_wp2
                exact withK_intro ⟨_, rfl, Below.refl _ _, HR.out, rfl⟩
              · have HR := Lib.hid hR
                clear hR
                have e130 : a.tmps[130]? = some (.pointer (some ⟨cb, co + k9 * 5, none⟩)) := flow_dep hdep 34 130 (by kernel_rfl) rfl
                have e119 : a.tmps[119]? = some (.bool false) := flow_dep hdep 23 119 (by kernel_rfl) rfl
                have z0 := cell_below HR HCn.out
                clear hout hdep
                refine op_list (by rfl) ?_
                go_wp2
                exact withK_intro ⟨_, rfl, Below.refl _ _, HR.out, rfl⟩
              · have HR := Lib.hid hR
                clear hR
                have e125 : a.tmps[125]? = some (.string nm) := flow_dep hdep 29 125 (by kernel_rfl) rfl
                have e131 : a.tmps[131]? = some (.string nm) := flow_dep hdep 35 131 (by kernel_rfl) rfl
                have e119 : a.tmps[119]? = some (.bool false) := flow_dep hdep 23 119 (by kernel_rfl) rfl
                clear hout hdep
                refine op_list (by rfl) ?_
                go_wp2
                exact withK_intro ⟨_, rfl, Below.refl _ _, HR.out, rfl⟩
              · have HR := Lib.hid hR
                clear hR
                have e119 : a.tmps[119]? = some (.bool false) := flow_dep hdep 23 119 (by kernel_rfl) rfl
                have e132 : a.tmps[132]? = some (.bool false) := flow_dep hdep 36 132 (by kernel_rfl) rfl
                clear hout hdep
                refine op_list (by rfl) ?_
                go_wp2
                exact withK_intro ⟨_, rfl, Below.refl _ _, HR.out, rfl⟩
              · have HR := Lib.hid hR
                clear hR
                have e133 : a.tmps[133]? = some (.bool false) := flow_dep hdep 37 133 (by kernel_rfl) rfl
                clear hout hdep
                refine op_list (by rfl) ?_
                go_wp2
                exact withK_intro ⟨_, rfl, Below.refl _ _, HR.out, rfl⟩
              · have HR := Lib.hid hR
                clear hR
                have e8 := hout 8 (by decide)
                have e134 : a.tmps[134]? = some (.bool false) := flow_dep hdep 38 134 (by kernel_rfl) rfl
                clear hout hdep
                refine op_list (by rfl) ?_
                go_wp2
                exact withK_intro ⟨_, rfl, Below.refl _ _, HR.out, rfl⟩
              · have HR := Lib.hid hR
                clear hR
                have e135 : a.tmps[135]? = some (.pointer (some ⟨dB, 0, none⟩)) := flow_dep hdep 39 135 (by kernel_rfl) rfl
                have e134 : a.tmps[134]? = some (.bool false) := flow_dep hdep 38 134 (by kernel_rfl) rfl
                have z0 := cell_below HR HD0.out
                clear hout hdep
                refine op_list (by rfl) ?_
                go_wp2
                exact withK_intro ⟨_, rfl, Below.refl _ _, HR.out, rfl⟩
              · have HR := Lib.hid hR
                clear hR
                have e10 := hout 10 (by decide)
                have e134 : a.tmps[134]? = some (.bool false) := flow_dep hdep 38 134 (by kernel_rfl) rfl
                clear hout hdep
                refine op_list (by rfl) ?_
                go_wp2
                exact withK_intro ⟨_, rfl, Below.refl _ _, HR.out, rfl⟩
              · have HR := Lib.hid hR
                clear hR
                have e136 : a.tmps[136]? = some (.slice (some ⟨db, dof, none⟩) m uc) := flow_dep hdep 40 136 (by kernel_rfl) rfl
                have e137 : a.tmps[137]? = some (.int .i64 (k9 : Int)) := flow_dep hdep 41 137 (by kernel_rfl) rfl
                have e134 : a.tmps[134]? = some (.bool false) := flow_dep hdep 38 134 (by kernel_rfl) rfl
                clear hout hdep
                refine op_list (by rfl) ?_
                go_wp2
                exact withK_intro ⟨_, rfl, Below.refl _ _, HR.out, rfl⟩
              · have HR := Lib.hid hR
                clear hR
                have e138 : a.tmps[138]? = some (.pointer (some ⟨db, dof + k9 * 5, none⟩)) := flow_dep hdep 42 138 (by kernel_rfl) rfl
                have e134 : a.tmps[134]? = some (.bool false) := flow_dep hdep 38 134 (by kernel_rfl) rfl
                clear hout hdep
                refine op_list (by rfl) ?_
                go_wp2
                exact withK_intro ⟨_, rfl, Below.refl _ _, HR.out, rfl⟩
              · have HR := Lib.hid hR
                clear hR
                have e139 : a.tmps[139]? = some (.pointer (some ⟨db, dof + k9 * 5 + 2, none⟩)) := flow_dep hdep 43 139 (by kernel_rfl) rfl
                have e134 : a.tmps[134]? = some (.bool false) := flow_dep hdep 38 134 (by kernel_rfl) rfl
                have z0 := cell_below HR HD2.out
                clear hout hdep
                refine op_list (by rfl) ?_
                go_wp2
                exact withK_intro ⟨_, rfl, Below.refl _ _, HR.out, rfl⟩
              · have HR := Lib.hid hR
                clear hR
                have e8 := hout 8 (by decide)
                have e134 : a.tmps[134]? = some (.bool false) := flow_dep hdep 38 134 (by kernel_rfl) rfl
                clear hout hdep
                refine op_list (by rfl) ?_
                go_wp2
                exact withK_intro ⟨_, rfl, Below.refl _ _, HR.out, rfl⟩
              · have HR := Lib.hid hR
                clear hR
                have e141 : a.tmps[141]? = some (.pointer (some ⟨dB, 0, none⟩)) := flow_dep hdep 45 141 (by kernel_rfl) rfl
                have e134 : a.tmps[134]? = some (.bool false) := flow_dep hdep 38 134 (by kernel_rfl) rfl
                have z0 := cell_below HR HD0.out
                clear hout hdep
                refine op_list (by rfl) ?_
                go_wp2
                exact withK_intro ⟨_, rfl, Below.refl _ _, HR.out, rfl⟩
              · have HR := Lib.hid hR
                clear hR
                have e10 := hout 10 (by decide)
                have e134 : a.tmps[134]? = some (.bool false) := flow_dep hdep 38 134 (by kernel_rfl) rfl
                clear hout hdep
                refine op_list (by rfl) ?_
                go_wp2
                exact withK_intro ⟨_, rfl, Below.refl _ _, HR.out, rfl⟩
              · have HR := Lib.hid hR
                clear hR
                have e142 : a.tmps[142]? = some (.slice (some ⟨db, dof, none⟩) m uc) := flow_dep hdep 46 142 (by kernel_rfl) rfl
                have e143 : a.tmps[143]? = some (.int .i64 (k9 : Int)) := flow_dep hdep 47 143 (by kernel_rfl) rfl
                have e134 : a.tmps[134]? = some (.bool false) := flow_dep hdep 38 134 (by kernel_rfl) rfl
                clear hout hdep
                refine op_list (by rfl) ?_
                go_wp2
                exact withK_intro ⟨_, rfl, Below.refl _ _, HR.out, rfl⟩
              · have HR := Lib.hid hR
                clear hR
                have e144 : a.tmps[144]? = some (.pointer (some ⟨db, dof + k9 * 5, none⟩)) := flow_dep hdep 48 144 (by kernel_rfl) rfl
                have e134 : a.tmps[134]? = some (.bool false) := flow_dep hdep 38 134 (by kernel_rfl) rfl
                clear hout hdep
                refine op_list (by rfl) ?_
                go_wp2
                exact withK_intro ⟨_, rfl, Below.refl _ _, HR.out, rfl⟩
              · have HR := Lib.hid hR
                clear hR
                have e145 : a.tmps[145]? = some (.pointer (some ⟨db, dof + k9 * 5 + 1, none⟩)) := flow_dep hdep 49 145 (by kernel_rfl) rfl
                have e134 : a.tmps[134]? = some (.bool false) := flow_dep hdep 38 134 (by kernel_rfl) rfl
                have z0 := cell_below HR HD1.out
                clear hout hdep
                refine op_list (by rfl) ?_
                go_wp2
                exact withK_intro ⟨_, rfl, Below.refl _ _, HR.out, rfl⟩
              · have HR := Lib.hid hR
                clear hR
                have e140 : a.tmps[140]? = some (.int .i64 pr) := flow_dep hdep 44 140 (by kernel_rfl) rfl
                have e146 : a.tmps[146]? = some (.int .i64 pr) := flow_dep hdep 50 146 (by kernel_rfl) rfl
                have e134 : a.tmps[134]? = some (.bool false) := flow_dep hdep 38 134 (by kernel_rfl) rfl
                clear hout hdep
                refine op_list (by rfl) ?_
                go_wp2
                exact withK_intro ⟨_, rfl, Below.refl _ _, HR.out, rfl⟩
            case hl16 =>
              intro vs wx hR hφ
              have HR := Lib.hid hR
              clear hR
              rw [fill_congr _ [96, 97, 98, 99, 100, 101, 102, 103, 104, 105, 106, 107, 108, 109, 110, 111, 112, 113, 114, 115, 116, 117, 118, 119, 120, 121, 122, 123, 124, 125, 126, 127, 128, 129, 130, 131, 132, 133, 134, 135, 136, 137, 138, 139, 140, 141, 142, 143, 144, 145, 146, 147] vs (fun j => ([.pointer (some ⟨dB, 0, none⟩), .slice (some ⟨db, dof, none⟩) m uc, .int .i64 (k9 : Int), .pointer (some ⟨db, dof + k9 * 5, none⟩), .pointer (some ⟨db, dof + k9 * 5 + 4, none⟩), .slice xa' 2 xc', .string ⟨#[48, 32, 112, 117, 115, 104, 32, 48, 10, 49, 32, 114, 101, 116, 117, 114, 110, 10]⟩, .bool false, .bool false, .pointer (some ⟨dB, 0, none⟩), .slice (some ⟨db, dof, none⟩) m uc, .int .i64 (k9 : Int), .pointer (some ⟨db, dof + k9 * 5, none⟩), .pointer (some ⟨db, dof + k9 * 5 + 1, none⟩), .int .i64 pr, .pointer (some ⟨cB, 0, none⟩), .slice (some ⟨cb, co, none⟩) m vc, .int .i64 (k9 : Int), .pointer (some ⟨cb, co + k9 * 5, none⟩), .pointer (some ⟨cb, co + k9 * 5 + 1, none⟩), .int .i64 pr, .bool false, .bool false, .bool false, .pointer (some ⟨dB, 0, none⟩), .slice (some ⟨db, dof, none⟩) m uc, .int .i64 (k9 : Int), .pointer (some ⟨db, dof + k9 * 5, none⟩), .pointer (some ⟨db, dof + k9 * 5, none⟩), .string nm, .pointer (some ⟨cB, 0, none⟩), .slice (some ⟨cb, co, none⟩) m vc, .int .i64 (k9 : Int), .pointer (some ⟨cb, co + k9 * 5, none⟩), .pointer (some ⟨cb, co + k9 * 5, none⟩), .string nm, .bool false, .bool false, .bool false, .pointer (some ⟨dB, 0, none⟩), .slice (some ⟨db, dof, none⟩) m uc, .int .i64 (k9 : Int), .pointer (some ⟨db, dof + k9 * 5, none⟩), .pointer (some ⟨db, dof + k9 * 5 + 2, none⟩), .int .i64 pr, .pointer (some ⟨dB, 0, none⟩), .slice (some ⟨db, dof, none⟩) m uc, .int .i64 (k9 : Int), .pointer (some ⟨db, dof + k9 * 5, none⟩), .pointer (some ⟨db, dof + k9 * 5 + 1, none⟩), .int .i64 pr, .bool false] : List Value).getD j undef) (fun j hj => hφ j hj)]
              clear hφ vs
              refine op_list (by rfl) ?_
              simp only [fill, fillA, List.getD_cons_zero, List.getD_cons_succ, Nat.reduceAdd]
              have HBn : Hid (Below w5.heap.size w5 wx) := HBk.out.trans (HR.out.mono HBk.out.size)
              clear HC0 HD0 HCn HC1 HDn HD1 HD2 HD4 HID HTC
              simp only [List.setIfInBounds_toArray, List.set_cons_succ, List.set_cons_zero]
              go_wp2_with fail
              refine withK_intro ?_
              go_wp2_with fail
              go_roundw
              case rel => exact ⟨k9 + 1, by go_num, by omega, by omega, HBn⟩
              case measure => simp [intOf]; omega
            case hr16 => exact (Below.refl _ _).drew
          · obtain rfl : k9 = m := by omega
            go_wp2_with fail
            go_ret
            exact ⟨rfl, HBW.out.trans (HBk.out.mono HBW.out.size)⟩
      case hr11 => exact (Below.refl _ _).drew
set_option maxHeartbeats 8000000 in
set_option maxRecDepth 1000000 in
theorem apart_bad (a1 a2 : Option Addr) (n1 n2 k1 k2 : Nat) (p : PT) (mb mn : Nat) (w : World) (ht : TabAll w mb mn) (hp : PR w (.slice a1 n1 k1) (.slice a2 n2 k2) p) (hN : p.nodes.length ≤ 1048576) (r : Int) (hr : p.resolve = r) (h0 : r ≠ 0) :
    Calls Tryd.prog 3 #[.agg #[.slice a1 n1 k1, .slice a2 n2 k2]] w fun e w' => e = .returned (.bool true) ∧ Below w.heap.size w w' := by
  have hr1 : (r == 0) = false := by simpa using h0
  have hr2 : (r != 0) = true := by simpa using h0
  have HT := Lib.hid ht
  have HP := Lib.hid hp
  have HN := Lib.hid hN
  have HR := Lib.hid hr
  clear ht hp hN hr h0
  have HB0 := hb_start w
  have HBA : Hid (Below w.heap.size w (w.alloc (.cells #[.slice a1 n1 k1, .slice a2 n2 k2] 25))) := hb_alloc HB0 _
  have HXA : Hid ((w.alloc (.cells #[.slice a1 n1 k1, .slice a2 n2 k2] 25)).heap[w.heap.size]? = some (.cells #[.slice a1 n1 k1, .slice a2 n2 k2] 25 (0, 0))) := heap_alloc_new _ _
  go_enter Tryd.func3, Tryd.ntmps3
  go_wp2_with fail
  refine (shown_r mb mn _ (HT.out.below HBA.out)).mono ?_
  rintro e w1 ⟨rfl, hb⟩
  have HB1 : Hid (Below w.heap.size w w1) := hb_step HBA hb
  have HX1 := Lib.hid ((hb.block _ (lt_of_heap HXA.out)).trans HXA.out)
  have c0 : w1.cell? ⟨w.heap.size, 0, none⟩ = some (.slice a1 n1 k1) := cell_of_heap HX1.out 0
  have c1 : w1.cell? ⟨w.heap.size, 1, none⟩ = some (.slice a2 n2 k2) := cell_of_heap HX1.out 1
  clear hb
  go_wp2_with fail
  refine (compile_r a1 a2 n1 n2 k1 k2 p mb mn _ (HT.out.below HB1.out).tree (HT.out.below HB1.out).smp (HP.out.stay HB1.out) (by have := HN.out; omega) _ HR.out).mono ?_
  rintro e w2 ⟨v, rfl, hb, hv⟩
  have HB2 : Hid (Below w.heap.size w w2) := hb_step HB1 hb
  obtain ⟨va, vc, rfl⟩ := hv.shape
  generalize (if r = 0 then p.code else []).length = m
  have HBX : Hid (Below w.heap.size w (w2.alloc (.cells #[.slice va m vc] 29))) := hb_alloc HB2 _
  clear hb hv c0 c1
  go_wp2_with fail
  go_ret
  exact ⟨rfl, HBX.out⟩
theorem apart_walk {H : Type} {d0 : DataW H} (a1 : Option Addr) (n1 k1 : Nat) (a2 : Option Addr) (n2 k2 : Nat) (p : PT) (w : World)
    (o0 : PR w (.slice a1 n1 k1) (.slice a2 n2 k2) p ∧ k1 ≤ 2199023255488 ∧ k2 ≤ 1353245080300)
    (b0 : p.nodes.length ≤ Rows.uptoBulk d0) (hbk : Rows.uptoSmall H ([d0] ++ []) = true) (ht : ∃ mb mn, TabAll w mb mn) :
    Calls Tryd.prog 3 #[.agg #[.slice a1 n1 k1, .slice a2 n2 k2]] w fun e w' => e = .returned (.bool true) ∧ Below w.heap.size w w' := by
  have hb : Rows.uptoBulk d0 + 0 ≤ 1048576 := of_decide_eq_true hbk
  obtain ⟨mb, mn, h⟩ := ht
  by_cases h0 : p.resolve = 0
  · exact apart_ok a1 a2 n1 n2 k1 k2 p mb mn w h o0.1 (by omega) h0
  · exact apart_bad a1 a2 n1 n2 k1 k2 p mb mn w h o0.1 (by omega) _ rfl h0
end Go.Proofs.YthjjcmmonjajhaaDoor
