/- The walk of TreeEqual. -/
import Derived.Test.YtplckmpamekloaaDoorTreeEqLaws
import Derived.Test.YtplckmpamekloaaDoorTreeFlowK
import Derived.Laws.Concat
namespace Go.Proofs.YtplckmpamekloaaDoor
open Go.RowKit Go.Sort
set_option linter.unusedVariables false

/-- What each operation of the statement that makes 'more' comes to. -/
def phiE (w1 : World) (Bp : Nat) (a1 a2 : Option Addr) (n1 k1 n2 k2 : Nat) (rows srow : List Value) : Nat → Value → World → Prop
  | 0, v, _ => v = .pointer (some ⟨Bp, 0, none⟩)
  | 1, v, _ => v = .slice a1 n1 k1
  | 2, v, w => ∃ b0, v = .slice (some ⟨b0, 0, none⟩) 0 0 ∧ w.ownsRow w1.heap.size 38 6 v 0 []
  | 3, v, _ => v = .pointer (some ⟨Bp, 1, none⟩)
  | 4, v, _ => v = .slice a2 n2 k2
  | 5, v, w => w.ownsRow w1.heap.size 38 6 v n2 rows
  | 6, v, _ => v = .agg srow.toArray
  | 7, v, w => ∃ bs, v = .slice (some ⟨bs, 0, none⟩) 1 1 ∧ w.heap[bs]? = some (.cells srow.toArray 38 (0, 0))
  | 8, v, w => w.ownsRow w1.heap.size 38 6 v (n2 + 1) (rows ++ srow)
  | 9, v, w => ∃ vm, v = .agg #[.slice a1 n1 k1, vm] ∧ w.ownsRow w1.heap.size 38 6 vm (n2 + 1) (rows ++ srow)
  | _, v, w => ∃ g, v = .pointer (some ⟨g, 0, none⟩) ∧ w1.heap.size ≤ g ∧ w.heap[g]? = some box0
def killE (i j : Nat) : Bool := (i == 5 && j == 2) || (i == 8 && (j == 2 || j == 5 || j == 7))
theorem phiE_stay {w1 : World} {Bp : Nat} {a1 a2 : Option Addr} {n1 k1 n2 k2 : Nat} {rows srow : List Value} {i : Nat} {v : Value} {w w' : World} (hb : Below w.heap.size w w')
    (h : phiE w1 Bp a1 a2 n1 k1 n2 k2 rows srow i v w) : phiE w1 Bp a1 a2 n1 k1 n2 k2 rows srow i v w' := by
  unfold phiE at h ⊢
  split at h <;> first
    | exact h
    | exact own_hold h hb
    | (obtain ⟨b0, e, q⟩ := h; exact ⟨b0, e, own_hold q hb⟩)
    | (obtain ⟨bs, e, q⟩ := h; exact ⟨bs, e, (hb.block bs (lt_of_heap q)).trans q⟩)
    | (obtain ⟨g, e, q, q'⟩ := h; exact ⟨g, e, q, (hb.block g (lt_of_heap q')).trans q'⟩)
/-- .. while an empty row of one's own is spent. -/
theorem phiE_grown5 {w1 : World} {Bp : Nat} {a1 a2 : Option Addr} {n1 k1 n2 k2 : Nat} {rows srow : List Value} {w w' : World} {b0 : Nat} (hs : srow.length = 6) (ho : w.ownsRow w1.heap.size 38 6 (.slice (some ⟨b0, 0, none⟩) 0 0) 0 []) (hg : w.grownBy w' (some b0))
    (j : Nat) (v : Value) (hj : j < 11) (h5 : j ≠ 5) (hk : killE 5 j = false) (h : phiE w1 Bp a1 a2 n1 k1 n2 k2 rows srow j v w) : phiE w1 Bp a1 a2 n1 k1 n2 k2 rows srow j v w' := by
  obtain ⟨_, ⟨h0, _⟩ | ⟨g, cap, cur, e, _, hk0, _, _, hsz, _⟩⟩ := ho
  · cases h0
  · cases e
    have hc : cur.size = 0 := by omega
    have hj' : j = 0 ∨ j = 1 ∨ j = 2 ∨ j = 3 ∨ j = 4 ∨ j = 6 ∨ j = 7 ∨ j = 8 ∨ j = 9 ∨ j = 10 := by omega
    rcases hj' with rfl | rfl | rfl | rfl | rfl | rfl | rfl | rfl | rfl | rfl
    · exact h
    · exact h
    · cases hk
    · exact h
    · exact h
    · exact h
    · obtain ⟨bs, e, q⟩ := h
      refine ⟨bs, e, own_of_grown q hg ?_⟩
      intro e'; cases e'
      rw [hk0] at q; injection q with q; injection q with q1 _ _; subst q1
      have : srow.length = 0 := by simpa using hc
      omega
    · exact own_apart h (by omega) hk0 hc hg
    · obtain ⟨vm, e, q⟩ := h
      exact ⟨vm, e, own_apart q (by omega) hk0 hc hg⟩
    · obtain ⟨g, e, q, q'⟩ := h
      refine ⟨g, e, q, own_of_grown q' hg ?_⟩
      intro e'; cases e'
      rw [hk0] at q'; injection q' with q'; injection q' with _ q2 _; exact absurd q2 (by decide)
/-- .. while the copy is appended to. -/
theorem phiE_grown8 {w1 : World} {Bp : Nat} {a1 a2 : Option Addr} {n1 k1 n2 k2 : Nat} {rows srow : List Value} {w w' : World} {v5 : Value} (ho : w.ownsRow w1.heap.size 38 6 v5 n2 rows) (hg : w.grownBy w' v5.ownBlock)
    (j : Nat) (v : Value) (hj : j < 11) (h8 : j ≠ 8) (h9 : j ≠ 9) (hk : killE 8 j = false) (h : phiE w1 Bp a1 a2 n1 k1 n2 k2 rows srow j v w) : phiE w1 Bp a1 a2 n1 k1 n2 k2 rows srow j v w' := by
  have hj' : j = 0 ∨ j = 1 ∨ j = 2 ∨ j = 3 ∨ j = 4 ∨ j = 5 ∨ j = 6 ∨ j = 7 ∨ j = 10 := by omega
  rcases hj' with rfl | rfl | rfl | rfl | rfl | rfl | rfl | rfl | rfl
  · exact h
  · exact h
  · cases hk
  · exact h
  · exact h
  · cases hk
  · exact h
  · cases hk
  · obtain ⟨g, e, q, q'⟩ := h
    refine ⟨g, e, q, own_of_grown q' hg ?_⟩
    obtain ⟨_, ⟨rfl, _⟩ | ⟨g5, cap, cur, rfl, _, hk0, _⟩⟩ := ho
    · simp [Value.ownBlock]
    · simp only [Value.ownBlock]
      intro e'; cases e'
      rw [hk0] at q'; injection q' with q'; injection q' with _ q2 _; exact absurd q2 (by decide)
/-- What each operation of the statement that makes 'other' comes to. -/
def phi9 (w1 : World) (Bp : Nat) (a1 a2 : Option Addr) (p : PT) (n1 k1 n2 k2 : Nat) (ff fg : Nat → Value) : Nat → Value → World → Prop
  | 0, v, _ => ∃ b, v = .slice (some ⟨b, 0, none⟩) 0 0
  | 1, v, _ => v = .pointer (some ⟨Bp, 0, none⟩)
  | 2, v, _ => v = .slice a1 n1 k1
  | 3, v, w => ∃ fa fc gf, v = .slice fa n1 fc ∧ Lf w1 w p.funcs n1 ff fg fa fc gf
  | 4, v, _ => v = .pointer (some ⟨Bp, 1, none⟩)
  | 5, v, _ => v = .slice a2 n2 k2
  | 6, v, w => ∃ fa fc gf, v = .agg #[.slice fa n1 fc, .slice a2 n2 k2] ∧ Lf w1 w p.funcs n1 ff fg fa fc gf
  | _, v, w => ∃ g, v = .pointer (some ⟨g, 0, none⟩) ∧ w1.heap.size ≤ g ∧ w.heap[g]? = some box0
theorem phi9_mono (w1 : World) (Bp : Nat) (a1 a2 : Option Addr) (p : PT) (n1 k1 n2 k2 : Nat) (ff fg : Nat → Value) (i : Nat) (v : Value) (w w' : World) (hb : Below w.heap.size w w')
    (h : phi9 w1 Bp a1 a2 p n1 k1 n2 k2 ff fg i v w) : phi9 w1 Bp a1 a2 p n1 k1 n2 k2 ff fg i v w' := by
  unfold phi9 at h ⊢
  split at h <;> first
    | exact h
    | (obtain ⟨a, b, c, e, q⟩ := h; exact ⟨a, b, c, e, q.stay hb⟩)
    | (obtain ⟨g, e, q, q'⟩ := h; exact ⟨g, e, q, (hb.block g (lt_of_heap q')).trans q'⟩)
theorem below_row {B : Nat} {w0 w w' : World} {e : TypeId} {size n : Nat} {v : Value} {xs : List Value} (hb : Below B w0 w) (hB : B ≤ w.heap.size) (ho : w.ownsRow B e size v n xs) (hg : w.grownBy w' v.ownBlock) : Below B w0 w' :=
  hb.grown hg hB (fun r e => by
    obtain ⟨_, ⟨rfl, _⟩ | ⟨g, cap, cur, rfl, hb', _⟩⟩ := ho
    · simp [Value.ownBlock] at e
    · simp only [Value.ownBlock] at e; cases e; exact hb')

set_option maxHeartbeats 8000000 in
set_option maxRecDepth 1000000 in
theorem equal_core (a1 a2 : Option Addr) (n1 n2 k1 k2 : Nat) (p : PT) (c1 c2 : Option Addr) (m1 m2 j1 j2 : Nat) (q : PT) (s : ST) (sa3 sa4 sa5 : Option Addr) (sn3 sc3 sn4 sc4 sn5 sc5 : Nat) (w : World) (ht : Tab w)
    (hp : PR w (.slice a1 n1 k1) (.slice a2 n2 k2) p) (hk1 : k1 ≤ 2199023255488) (hk2 : k2 ≤ 1353245080300) (hq : PR w (.slice c1 m1 j1) (.slice c2 m2 j2) q)
    (hns : 0 < n1 → (p.funcs.getD 0 default).name.size ≤ 140737488355328) (hs3 : ESl w (.slice sa3 sn3 sc3) s.parts) (hs4 : SSl w (.slice sa4 sn4 sc4) s.body) (hs5 : SSl w (.slice sa5 sn5 sc5) s.els) :
    Calls Tryd.prog 6 #[.agg #[.slice a1 n1 k1, .slice a2 n2 k2], .agg #[.slice c1 m1 j1, .slice c2 m2 j2], .agg #[.int .i64 s.op, .string s.name, .int .i64 s.num, .slice sa3 sn3 sc3, .slice sa4 sn4 sc4, .slice sa5 sn5 sc5]] w
      fun e w' => e = .returned (.bool true) ∧ Below w.heap.size w w' := by
  obtain ⟨iF, hi', hz0, hz1, hz2⟩ := info_parts infoFn
  obtain ⟨iS, hi'', hz0', hz1', hz2'⟩ := info_parts infoSt
  obtain ⟨l1, l2, l3⟩ := hp.1.len
  obtain ⟨m1', m2', m3'⟩ := hp.2.len
  obtain ⟨bF, oF, ff, fg, hfr⟩ := hp.1.row
  obtain ⟨bS, oS, sf, sg, sh, hsr⟩ := hp.2.row
  have HBF : Hid (n1 * 64 ≤ 140737488355328) := by show n1 * 64 ≤ _; omega
  have HBS : Hid (n2 * 104 ≤ 140737488355328) := by show n2 * 104 ≤ _; omega
  have HBS1 : Hid ((n2 + 1) * 104 ≤ 140737488355328) := by show (n2 + 1) * 104 ≤ _; omega
  have HL1 := Lib.hid l1
  have HL2 := Lib.hid m1'
  have HFR := Lib.hid hfr
  have HSR := Lib.hid hsr
  have HT := Lib.hid ht
  have HP := Lib.hid hp
  have HQ := Lib.hid hq
  have HNS := Lib.hid hns
  have HSV := Lib.hid (And.intro hs3 (And.intro hs4 hs5))
  obtain ⟨so, hso⟩ : ∃ o, s.op = o := ⟨_, rfl⟩
  obtain ⟨ss, hss⟩ : ∃ o, s.name = o := ⟨_, rfl⟩
  obtain ⟨sn, hsn⟩ : ∃ o, s.num = o := ⟨_, rfl⟩
  rw [hso, hss, hsn]
  have HSO := Lib.hid (And.intro hso (And.intro hss hsn))
  clear hns ht hp hq l1 m1' hfr hsr hs3 hs4 hs5 hso hss hsn
  go_enter Tryd.func6, Tryd.ntmps6
  go_wp2_with fail
  have HE : Hid (∀ W : World, W = ((w.alloc (.cells #[.slice a1 n1 k1, .slice a2 n2 k2] 25)).alloc (.cells #[.slice c1 m1 j1, .slice c2 m2 j2] 25)).alloc (.cells #[.int .i64 so, .string ss, .int .i64 sn, .slice sa3 sn3 sc3, .slice sa4 sn4 sc4, .slice sa5 sn5 sc5] 38) →
      Below w.heap.size w W ∧ W.heap[w.heap.size]? = some (.cells #[.slice a1 n1 k1, .slice a2 n2 k2] 25 (0, 0)) ∧ W.heap[w.heap.size + 1]? = some (.cells #[.slice c1 m1 j1, .slice c2 m2 j2] 25 (0, 0)) ∧
        W.heap[w.heap.size + 1 + 1]? = some (.cells #[.int .i64 so, .string ss, .int .i64 sn, .slice sa3 sn3 sc3, .slice sa4 sn4 sc4, .slice sa5 sn5 sc5] 38 (0, 0))) := by
    rintro W rfl
    have h0 := World.alloc_heap_new w (.cells #[.slice a1 n1 k1, .slice a2 n2 k2] 25)
    have h1 := World.alloc_heap_new (w.alloc (.cells #[.slice a1 n1 k1, .slice a2 n2 k2] 25)) (.cells #[.slice c1 m1 j1, .slice c2 m2 j2] 25)
    have h2 := World.alloc_heap_new ((w.alloc (.cells #[.slice a1 n1 k1, .slice a2 n2 k2] 25)).alloc (.cells #[.slice c1 m1 j1, .slice c2 m2 j2] 25)) (.cells #[.int .i64 so, .string ss, .int .i64 sn, .slice sa3 sn3 sc3, .slice sa4 sn4 sc4, .slice sa5 sn5 sc5] 38)
    rw [World.size_alloc] at h1
    rw [World.size_alloc, World.size_alloc] at h2
    have hA : ∀ (W : World) (o : Obj), Below W.heap.size W (W.alloc o) := fun W o => (Below.refl _ _).alloc (Nat.le_refl _) _
    exact ⟨(((Below.refl _ _).alloc (Nat.le_refl _) _).alloc (by simp) _).alloc (by simp; omega) _, ((hA _ _).block _ (by simp; omega)).trans (((hA _ _).block _ (by simp)).trans h0), ((hA _ _).block _ (by simp)).trans h1, h2⟩
  refine (shown_r _ (HT.out.below (HE.out _ rfl).1)).mono ?_
  rintro e w1 ⟨rfl, hb⟩
  have HX := Lib.hid (HE.out _ rfl)
  have HW1 : Hid (Below w.heap.size w w1) := HX.out.1.trans (hb.mono HX.out.1.size)
  have HKp : Hid (w1.heap[w.heap.size]? = some (.cells #[.slice a1 n1 k1, .slice a2 n2 k2] 25 (0, 0))) := (hb.block _ (lt_of_heap HX.out.2.1)).trans HX.out.2.1
  have HKq : Hid (w1.heap[w.heap.size + 1]? = some (.cells #[.slice c1 m1 j1, .slice c2 m2 j2] 25 (0, 0))) := (hb.block _ (lt_of_heap HX.out.2.2.1)).trans HX.out.2.2.1
  have HKs : Hid (w1.heap[w.heap.size + 1 + 1]? = some (.cells #[.int .i64 so, .string ss, .int .i64 sn, .slice sa3 sn3 sc3, .slice sa4 sn4 sc4, .slice sa5 sn5 sc5] 38 (0, 0))) := (hb.block _ (lt_of_heap HX.out.2.2.2)).trans HX.out.2.2.2
  have HT1 : Hid (Tab w1) := HT.out.below HW1.out
  have HP1 : Hid (PR w1 (.slice a1 n1 k1) (.slice a2 n2 k2) p) := HP.out.stay HW1.out
  have HQ1 : Hid (PR w1 (.slice c1 m1 j1) (.slice c2 m2 j2) q) := HQ.out.stay HW1.out
  clear hb HX HE
  go_wp2_with fail
  refine region_flow_kill rfl 11 rfl (by decide +kernel) [11, 12, 13, 14, 15, 16, 17, 18, 19, 20, 8] (by decide +kernel) rfl (by decide) (by simp) killE (by decide +kernel) (fun w => Below w1.heap.size w1 w)
    (phiE w1 w.heap.size a1 a2 n1 k1 n2 k2 ((List.range (n2 * 6)).map (rowC p.main sf sg sh)) [.int .i64 so, .string ss, .int .i64 sn, .slice sa3 sn3 sc3, .slice sa4 sn4 sc4, .slice sa5 sn5 sc5]) (Below.refl _ _).drew ?hs2 ?hl2
  case hs2 =>
    intro ix hix a wx hR hout hdep
    have HR := Lib.hid hR
    clear hR
    have hx11 : ix = 0 ∨ ix = 1 ∨ ix = 2 ∨ ix = 3 ∨ ix = 4 ∨ ix = 5 ∨ ix = 6 ∨ ix = 7 ∨ ix = 8 ∨ ix = 9 ∨ ix = 10 := by omega
    rcases hx11 with rfl | rfl | rfl | rfl | rfl | rfl | rfl | rfl | rfl | rfl | rfl
    · have e3 := hout 3 (by decide)
      refine op_list (by rfl) ?_
      go_wp2
      exact withK_intro ⟨_, rfl, fun j v _ _ _ _ h => phiE_stay (Below.refl _ _) h, HR.out, rfl⟩
    · obtain ⟨v, e11, rfl⟩ := hdep 0 11 (by kernel_rfl) rfl
      have y0 := cell_of_heap ((HR.out.block _ (lt_of_heap HKp.out)).trans HKp.out) 0
      simp only [List.getElem?_toArray, List.getElem?_cons_zero] at y0
      refine op_list (by rfl) ?_
      go_wp2
      exact withK_intro ⟨_, rfl, fun j v _ _ _ _ h => phiE_stay (Below.refl _ _) h, HR.out, rfl⟩
    · refine op_list (by rfl) ?_
      go_wp2
      exact withK_intro ⟨_, rfl, fun j v _ _ _ _ h => phiE_stay ((Below.refl _ _).alloc (Nat.le_refl _) _) h, HR.out.alloc HR.out.size _, _, rfl, own_empty _ _ _ _ HR.out.size⟩
    · have e3 := hout 3 (by decide)
      refine op_list (by rfl) ?_
      go_wp2
      exact withK_intro ⟨_, rfl, fun j v _ _ _ _ h => phiE_stay (Below.refl _ _) h, HR.out, rfl⟩
    · obtain ⟨v, e14, rfl⟩ := hdep 3 14 (by kernel_rfl) rfl
      have y1 := cell_of_heap ((HR.out.block _ (lt_of_heap HKp.out)).trans HKp.out) 1
      simp only [List.getElem?_toArray, List.getElem?_cons_succ, List.getElem?_cons_zero] at y1
      refine op_list (by rfl) ?_
      go_wp2
      exact withK_intro ⟨_, rfl, fun j v _ _ _ _ h => phiE_stay (Below.refl _ _) h, HR.out, rfl⟩
    · obtain ⟨v, e13, b0, rfl, ho⟩ := hdep 2 13 (by kernel_rfl) rfl
      obtain ⟨v, e15, rfl⟩ := hdep 4 15 (by kernel_rfl) rfl
      refine op_list (by rfl) ?_
      refine wpList_own_copy _ rfl _ _ 23 rfl 38 iS (.agg #[.int .i64 0, .string ⟨#[]⟩, .int .i64 0, .slice none 0 0, .slice none 0 0, .slice none 0 0]) 6 104 Tryd.underlying23 hi'' hz0' hz1' hz2' rfl (by decide) w1.heap.size b0 ho (eval_of e13) a2 bS oS n2 k2 (eval_of e15) HSR.out.at_ HSR.out.max HBS.out (rowC p.main sf sg sh) (fun j hj => cell_below HR (cell_below HW1 (HSR.out.cell j hj))) HSR.out.one HR.out.size ?_
      intro v' w2 ho' hg
      exact withK_intro ⟨_, rfl, fun j v hj hne hk _ h => phiE_grown5 rfl ho hg j v hj hne hk h, below_row HR.out HR.out.size ho hg, ho'⟩
    · have e5 := hout 5 (by decide)
      have ks := (HR.out.block _ (lt_of_heap HKs.out)).trans HKs.out
      have y0 := cell_of_heap ks 0
      have y1 := cell_of_heap ks 1
      have y2 := cell_of_heap ks 2
      have y3 := cell_of_heap ks 3
      have y4 := cell_of_heap ks 4
      have y5 := cell_of_heap ks 5
      simp only [List.getElem?_toArray, List.getElem?_cons_succ, List.getElem?_cons_zero] at y0 y1 y2 y3 y4 y5
      clear ks
      refine op_list (by rfl) ?_
      go_wp2
      exact withK_intro ⟨_, rfl, fun j v _ _ _ _ h => phiE_stay (Below.refl _ _) h, HR.out, rfl⟩
    · obtain ⟨v, e17, rfl⟩ := hdep 6 17 (by kernel_rfl) rfl
      refine op_list (by rfl) ?_
      go_wp2
      exact withK_intro ⟨_, rfl, fun j v _ _ _ _ h => phiE_stay ((Below.refl _ _).alloc (Nat.le_refl _) _) h, HR.out.alloc HR.out.size _, _, rfl, World.alloc_heap_new _ _⟩
    · obtain ⟨v5, e16, ho⟩ := hdep 5 16 (by kernel_rfl) rfl
      obtain ⟨v, e18, bs, rfl, hbs⟩ := hdep 7 18 (by kernel_rfl) rfl
      refine op_list (by rfl) ?_
      refine wpList_append_own _ rfl _ _ 23 rfl w1.heap.size 38 iS (.agg #[.int .i64 0, .string ⟨#[]⟩, .int .i64 0, .slice none 0 0, .slice none 0 0, .slice none 0 0]) 6 104 Tryd.underlying23 hi'' hz0' hz1' hz2' rfl (by decide) v5 n2 _ (eval_of e16) ho ⟨bs, 0, none⟩ 1 1 [.int .i64 so, .string ss, .int .i64 sn, .slice sa3 sn3 sc3, .slice sa4 sn4 sc4, .slice sa5 sn5 sc5] (eval_of e18) rfl
        (fun j u h => by rw [addr_add, Nat.zero_add, cell_of_heap hbs]; simpa using h) (by simp [Value.oneCell']) (by have := HBS1.out; unfold maxLen; omega) HBS1.out HR.out.size ?_
      intro v' w2 ho' hg _
      exact withK_intro ⟨_, rfl, fun j v hj hne hk hw h => phiE_grown8 ho hg j v hj hne (fun e => by subst e; exact absurd hw (by decide +kernel)) hk h, below_row HR.out HR.out.size ho hg, ho'⟩
    · obtain ⟨v, e12, rfl⟩ := hdep 1 12 (by kernel_rfl) rfl
      obtain ⟨vm, e19, ho⟩ := hdep 8 19 (by kernel_rfl) rfl
      obtain ⟨ga, gc, rfl⟩ := ownsRow_succ' ho
      have HO := Lib.hid ho
      clear ho
      refine op_list (by rfl) ?_
      go_wp2
      exact withK_intro ⟨_, rfl, fun j v _ _ _ _ h => phiE_stay (Below.refl _ _) h, HR.out, _, rfl, HO.out⟩
    · refine op_list (by rfl) ?_
      go_wp2
      exact withK_intro ⟨_, rfl, fun j v _ _ _ _ h => phiE_stay ((Below.refl _ _).alloc (Nat.le_refl _) _) h, HR.out.alloc HR.out.size _, _, rfl, HR.out.size, World.alloc_heap_new _ _⟩
  case hl2 =>
    intro vs wx hR hφ
    obtain ⟨vm, e9, hom⟩ := hφ 9 (by decide) (by decide)
    obtain ⟨g, e10, hge, hg⟩ := hφ 10 (by decide) (by decide)
    obtain ⟨gb, mc, rfl⟩ := ownsRow_succ' hom
    have HOM := Lib.hid hom
    have HG := Lib.hid (And.intro hge hg)
    have HR := Lib.hid hR
    have z0 := free_of_heap hg 0
    have z1 := free_of_heap hg 1
    have y0 := cell_of_heap hg 0
    have y1 := cell_of_heap hg 1
    simp only [List.getElem?_toArray, List.getElem?_cons_succ, List.getElem?_cons_zero] at y0 y1
    clear hom hge hg hR hφ
    refine op_list (by rfl) ?_
    simp only [fill, fillA, e9, e10, Nat.reduceAdd]
    generalize vs 0 = v11
    generalize vs 1 = v12
    generalize vs 2 = v13
    generalize vs 3 = v14
    generalize vs 4 = v15
    generalize vs 5 = v16
    generalize vs 6 = v17
    generalize vs 7 = v18
    generalize vs 8 = v19
    clear e9 e10
    go_wp2
    refine withK_intro ?_
    have HW2 : Hid (∀ W : World, W = (wx.setCell ⟨g, 0, none⟩ (.slice a1 n1 k1)).setCell ⟨g, 1, none⟩ (.slice (some ⟨gb, 0, none⟩) (n2 + 1) mc) →
        Below w1.heap.size w1 W ∧ W.heap[g]? = some (.cells #[.slice a1 n1 k1, .slice (some ⟨gb, 0, none⟩) (n2 + 1) mc] 25 (0, 0)) ∧ W.ownsRow w1.heap.size 38 6 (.slice (some ⟨gb, 0, none⟩) (n2 + 1) mc) (n2 + 1) ((List.range (n2 * 6)).map (rowC p.main sf sg sh) ++ [.int .i64 so, .string ss, .int .i64 sn, .slice sa3 sn3 sc3, .slice sa4 sn4 sc4, .slice sa5 sn5 sc5])) := by
      rintro W rfl
      have hne : gb ≠ g := by
        rintro rfl
        obtain ⟨_, ⟨h0, _⟩ | ⟨g', cap, cur, e, _, hk, _⟩⟩ := HOM.out
        · cases h0
        · cases e
          rw [HG.out.2] at hk; injection hk with hk; injection hk with _ h2 _; exact absurd h2 (by decide)
      refine ⟨(HR.out.setCell (p := ⟨g, 0, none⟩) HG.out.1 _).setCell (p := ⟨g, 1, none⟩) HG.out.1 _, heap_set (heap_set HG.out.2 0 _) 1 _, ?_⟩
      exact (HOM.out.kept (grown_set wx g 0 _) (.inr (by simp only [Value.ownBlock]; intro e; cases e; exact hne rfl))).kept (grown_set _ g 1 _) (.inr (by simp only [Value.ownBlock]; intro e; cases e; exact hne rfl))
    obtain ⟨hB2, hbox, hown⟩ := HW2.out _ rfl
    generalize (wx.setCell ⟨g, 0, none⟩ (.slice a1 n1 k1)).setCell ⟨g, 1, none⟩ (.slice (some ⟨gb, 0, none⟩) (n2 + 1) mc) = W2 at hB2 hbox hown ⊢
    clear HW2 HR y0 y1 z0 z1
    have hWW : Below w.heap.size w W2 := HW1.out.trans (hB2.mono HW1.out.size)
    have hM : SSl W2 (.slice (some ⟨gb, 0, none⟩) (n2 + 1) mc) (p.main ++ [s]) := by
      obtain ⟨rfl, rfl, rfl⟩ := HSO.out
      exact own_more HSR.out hWW (HSV.out.1.stay hWW) (HSV.out.2.1.stay hWW) (HSV.out.2.2.stay hWW) hown
    have HB2 : Hid (Below w1.heap.size w1 W2) := hB2
    have HT2 : Hid (Tab W2) := HT1.out.below hB2
    have HP2 : Hid (PR W2 (.slice a1 n1 k1) (.slice a2 n2 k2) p) := HP1.out.stay hB2
    have HQ2 : Hid (PR W2 (.slice c1 m1 j1) (.slice c2 m2 j2) q) := HQ1.out.stay hB2
    have HM2 : Hid (PR W2 (.slice a1 n1 k1) (.slice (some ⟨gb, 0, none⟩) (n2 + 1) mc) ⟨p.funcs, p.main ++ [s]⟩) := PR.of HP2.out.fs hM
    have HP0 : Hid (W2.cell? ⟨w.heap.size, 0, none⟩ = some (.slice a1 n1 k1)) := cell_of_heap ((hB2.block _ (lt_of_heap HKp.out)).trans HKp.out) 0
    have HPm : Hid (W2.cell? ⟨w.heap.size, 1, none⟩ = some (.slice a2 n2 k2)) := cell_of_heap ((hB2.block _ (lt_of_heap HKp.out)).trans HKp.out) 1
    have HQ0 : Hid (W2.cell? ⟨w.heap.size + 1, 0, none⟩ = some (.slice c1 m1 j1)) := cell_of_heap ((hB2.block _ (lt_of_heap HKq.out)).trans HKq.out) 0
    have HQm : Hid (W2.cell? ⟨w.heap.size + 1, 1, none⟩ = some (.slice c2 m2 j2)) := cell_of_heap ((hB2.block _ (lt_of_heap HKq.out)).trans HKq.out) 1
    have HM0 : Hid (W2.cell? ⟨g, 0, none⟩ = some (.slice a1 n1 k1)) := cell_of_heap hbox 0
    have HMm : Hid (W2.cell? ⟨g, 1, none⟩ = some (.slice (some ⟨gb, 0, none⟩) (n2 + 1) mc)) := cell_of_heap hbox 1
    obtain ⟨bq, hbq⟩ : ∃ b, PT.same p q = b := ⟨_, rfl⟩
    have HPQ := Lib.hid hbq
    have HQP : Hid (PT.same q p = bq) := (PT.same_symm q p).trans hbq
    have HN1 := Lib.hid (more_not p s)
    have HN2 := Lib.hid (more_not' p s)
    have HN3 := Lib.hid (PT.same_refl ⟨p.funcs, p.main ++ [s]⟩)
    clear hB2 hbox hown hWW hM hbq HOM
    go_wp2_with fail
    refine region_flow rfl 22 rfl (by decide +kernel) [21, 22, 23, 24, 25, 26, 27, 28, 29, 30, 31, 32, 33, 34, 35, 36, 37, 38, 39, 40, 41, 42] (by decide +kernel) rfl (by decide) (by simp) (fun w w' => Below w.heap.size w w') (fun w => Below W2.heap.size W2 w)
      (fun j v _ => v = ([.agg #[.slice a1 n1 k1, .slice a2 n2 k2], .agg #[.slice c1 m1 j1, .slice c2 m2 j2], .bool bq, .agg #[.slice c1 m1 j1, .slice c2 m2 j2], .agg #[.slice a1 n1 k1, .slice a2 n2 k2], .bool bq, .bool false, .bool false, .agg #[.slice a1 n1 k1, .slice a2 n2 k2], .agg #[.slice a1 n1 k1, .slice (some ⟨gb, 0, none⟩) (n2 + 1) mc], .bool false, .bool false, .bool false, .agg #[.slice a1 n1 k1, .slice (some ⟨gb, 0, none⟩) (n2 + 1) mc], .agg #[.slice a1 n1 k1, .slice a2 n2 k2], .bool false, .bool false, .bool false, .agg #[.slice a1 n1 k1, .slice (some ⟨gb, 0, none⟩) (n2 + 1) mc], .agg #[.slice a1 n1 k1, .slice (some ⟨gb, 0, none⟩) (n2 + 1) mc], .bool true, .bool false] : List Value).getD j undef) (fun _ _ _ _ _ h => h) ?hr3 ?hs3 ?hl3
    case hs3 =>
      intro ix hix a wx hR hout hdep
      have hix' : ix = 0 ∨ ix = 1 ∨ ix = 2 ∨ ix = 3 ∨ ix = 4 ∨ ix = 5 ∨ ix = 6 ∨ ix = 7 ∨ ix = 8 ∨ ix = 9 ∨ ix = 10 ∨ ix = 11 ∨ ix = 12 ∨ ix = 13 ∨ ix = 14 ∨ ix = 15 ∨ ix = 16 ∨ ix = 17 ∨ ix = 18 ∨ ix = 19 ∨ ix = 20 ∨ ix = 21 := by omega
      rcases hix' with rfl | rfl | rfl | rfl | rfl | rfl | rfl | rfl | rfl | rfl | rfl | rfl | rfl | rfl | rfl | rfl | rfl | rfl | rfl | rfl | rfl | rfl
      · have HR := Lib.hid hR
        clear hR
        have e3 := hout 3 (by decide)
        have z0 := cell_below HR HP0.out
        have z1 := cell_below HR HPm.out
        clear hout hdep
        refine op_list (by rfl) ?_
        go_wp2
        exact withK_intro ⟨_, rfl, Below.refl _ _, HR.out, rfl⟩
      · have HR := Lib.hid hR
        clear hR
        have e4 := hout 4 (by decide)
        have z0 := cell_below HR HQ0.out
        have z1 := cell_below HR HQm.out
        clear hout hdep
        refine op_list (by rfl) ?_
        go_wp2
        exact withK_intro ⟨_, rfl, Below.refl _ _, HR.out, rfl⟩
      · have HR := Lib.hid hR
        clear hR
        have e21 : a.tmps[21]? = some (.agg #[.slice a1 n1 k1, .slice a2 n2 k2]) := flow_dep hdep 0 21 (by kernel_rfl) rfl
        have e22 : a.tmps[22]? = some (.agg #[.slice c1 m1 j1, .slice c2 m2 j2]) := flow_dep hdep 1 22 (by kernel_rfl) rfl
        clear hout hdep
        refine op_list (by rfl) ?_
        go_wp2_with (go_at_call 18; refine (equal_r a1 _ n1 n2 k1 k2 c1 _ m1 m2 j1 j2 p q _ (HP2.out.stay HR.out) (HQ2.out.stay HR.out) _ HPQ.out).mono ?_; rintro e w' ⟨rfl, hb⟩; have HBc := Lib.hid hb; clear hb)
        exact withK_intro ⟨_, rfl, HBc.out, HR.out.trans (HBc.out.mono HR.out.size), rfl⟩
      · have HR := Lib.hid hR
        clear hR
        have e4 := hout 4 (by decide)
        have z0 := cell_below HR HQ0.out
        have z1 := cell_below HR HQm.out
        clear hout hdep
        refine op_list (by rfl) ?_
        go_wp2
        exact withK_intro ⟨_, rfl, Below.refl _ _, HR.out, rfl⟩
      · have HR := Lib.hid hR
        clear hR
        have e3 := hout 3 (by decide)
        have z0 := cell_below HR HP0.out
        have z1 := cell_below HR HPm.out
        clear hout hdep
        refine op_list (by rfl) ?_
        go_wp2
        exact withK_intro ⟨_, rfl, Below.refl _ _, HR.out, rfl⟩
      · have HR := Lib.hid hR
        clear hR
        have e24 : a.tmps[24]? = some (.agg #[.slice c1 m1 j1, .slice c2 m2 j2]) := flow_dep hdep 3 24 (by kernel_rfl) rfl
        have e25 : a.tmps[25]? = some (.agg #[.slice a1 n1 k1, .slice a2 n2 k2]) := flow_dep hdep 4 25 (by kernel_rfl) rfl
        clear hout hdep
        refine op_list (by rfl) ?_
        go_wp2_with (go_at_call 18; refine (equal_r c1 _ m1 m2 j1 j2 a1 _ n1 n2 k1 k2 q p _ (HQ2.out.stay HR.out) (HP2.out.stay HR.out) _ HQP.out).mono ?_; rintro e w' ⟨rfl, hb⟩; have HBc := Lib.hid hb; clear hb)
        exact withK_intro ⟨_, rfl, HBc.out, HR.out.trans (HBc.out.mono HR.out.size), rfl⟩
      · have HR := Lib.hid hR
        clear hR
        have e23 : a.tmps[23]? = some (.bool bq) := flow_dep hdep 2 23 (by kernel_rfl) rfl
        have e26 : a.tmps[26]? = some (.bool bq) := flow_dep hdep 5 26 (by kernel_rfl) rfl
        clear hout hdep
        refine op_list (by rfl) ?_
        go_wp2
        exact withK_intro ⟨_, rfl, Below.refl _ _, HR.out, rfl⟩
      · have HR := Lib.hid hR
        clear hR
        have e27 : a.tmps[27]? = some (.bool false) := flow_dep hdep 6 27 (by kernel_rfl) rfl
        clear hout hdep
        refine op_list (by rfl) ?_
        go_wp2
        exact withK_intro ⟨_, rfl, Below.refl _ _, HR.out, rfl⟩
      · have HR := Lib.hid hR
        clear hR
        have e3 := hout 3 (by decide)
        have e28 : a.tmps[28]? = some (.bool false) := flow_dep hdep 7 28 (by kernel_rfl) rfl
        have z0 := cell_below HR HP0.out
        have z1 := cell_below HR HPm.out
        clear hout hdep
        refine op_list (by rfl) ?_
        go_wp2
        exact withK_intro ⟨_, rfl, Below.refl _ _, HR.out, rfl⟩
      · have HR := Lib.hid hR
        clear hR
        have e8 := hout 8 (by decide)
        have e28 : a.tmps[28]? = some (.bool false) := flow_dep hdep 7 28 (by kernel_rfl) rfl
        have z0 := cell_below HR HM0.out
        have z1 := cell_below HR HMm.out
        clear hout hdep
        refine op_list (by rfl) ?_
        go_wp2
        exact withK_intro ⟨_, rfl, Below.refl _ _, HR.out, rfl⟩
      · have HR := Lib.hid hR
        clear hR
        have e29 : a.tmps[29]? = some (.agg #[.slice a1 n1 k1, .slice a2 n2 k2]) := flow_dep hdep 8 29 (by kernel_rfl) rfl
        have e30 : a.tmps[30]? = some (.agg #[.slice a1 n1 k1, .slice (some ⟨gb, 0, none⟩) (n2 + 1) mc]) := flow_dep hdep 9 30 (by kernel_rfl) rfl
        have e28 : a.tmps[28]? = some (.bool false) := flow_dep hdep 7 28 (by kernel_rfl) rfl
        clear hout hdep
        refine op_list (by rfl) ?_
        go_wp2_with (go_at_call 18; refine (equal_r a1 _ n1 n2 k1 k2 a1 _ n1 (n2 + 1) k1 mc p ⟨p.funcs, p.main ++ [s]⟩ _ (HP2.out.stay HR.out) (HM2.out.stay HR.out) _ HN1.out).mono ?_; rintro e w' ⟨rfl, hb⟩; have HBc := Lib.hid hb; clear hb)
        exact withK_intro ⟨_, rfl, HBc.out, HR.out.trans (HBc.out.mono HR.out.size), rfl⟩
      · have HR := Lib.hid hR
        clear hR
        have e28 : a.tmps[28]? = some (.bool false) := flow_dep hdep 7 28 (by kernel_rfl) rfl
        have e31 : a.tmps[31]? = some (.bool false) := flow_dep hdep 10 31 (by kernel_rfl) rfl
        clear hout hdep
        refine op_list (by rfl) ?_
        go_wp2
        exact withK_intro ⟨_, rfl, Below.refl _ _, HR.out, rfl⟩
      · have HR := Lib.hid hR
        clear hR
        have e32 : a.tmps[32]? = some (.bool false) := flow_dep hdep 11 32 (by kernel_rfl) rfl
        clear hout hdep
        refine op_list (by rfl) ?_
        go_wp2
        exact withK_intro ⟨_, rfl, Below.refl _ _, HR.out, rfl⟩
      · have HR := Lib.hid hR
        clear hR
        have e8 := hout 8 (by decide)
        have e33 : a.tmps[33]? = some (.bool false) := flow_dep hdep 12 33 (by kernel_rfl) rfl
        have z0 := cell_below HR HM0.out
        have z1 := cell_below HR HMm.out
        clear hout hdep
        refine op_list (by rfl) ?_
        go_wp2
        exact withK_intro ⟨_, rfl, Below.refl _ _, HR.out, rfl⟩
      · have HR := Lib.hid hR
        clear hR
        have e3 := hout 3 (by decide)
        have e33 : a.tmps[33]? = some (.bool false) := flow_dep hdep 12 33 (by kernel_rfl) rfl
        have z0 := cell_below HR HP0.out
        have z1 := cell_below HR HPm.out
        clear hout hdep
        refine op_list (by rfl) ?_
        go_wp2
        exact withK_intro ⟨_, rfl, Below.refl _ _, HR.out, rfl⟩
      · have HR := Lib.hid hR
        clear hR
        have e34 : a.tmps[34]? = some (.agg #[.slice a1 n1 k1, .slice (some ⟨gb, 0, none⟩) (n2 + 1) mc]) := flow_dep hdep 13 34 (by kernel_rfl) rfl
        have e35 : a.tmps[35]? = some (.agg #[.slice a1 n1 k1, .slice a2 n2 k2]) := flow_dep hdep 14 35 (by kernel_rfl) rfl
        have e33 : a.tmps[33]? = some (.bool false) := flow_dep hdep 12 33 (by kernel_rfl) rfl
        clear hout hdep
        refine op_list (by rfl) ?_
        go_wp2_with (go_at_call 18; refine (equal_r a1 _ n1 (n2 + 1) k1 mc a1 _ n1 n2 k1 k2 ⟨p.funcs, p.main ++ [s]⟩ p _ (HM2.out.stay HR.out) (HP2.out.stay HR.out) _ HN2.out).mono ?_; rintro e w' ⟨rfl, hb⟩; have HBc := Lib.hid hb; clear hb)
        exact withK_intro ⟨_, rfl, HBc.out, HR.out.trans (HBc.out.mono HR.out.size), rfl⟩
      · have HR := Lib.hid hR
        clear hR
        have e33 : a.tmps[33]? = some (.bool false) := flow_dep hdep 12 33 (by kernel_rfl) rfl
        have e36 : a.tmps[36]? = some (.bool false) := flow_dep hdep 15 36 (by kernel_rfl) rfl
        clear hout hdep
        refine op_list (by rfl) ?_
        go_wp2
        exact withK_intro ⟨_, rfl, Below.refl _ _, HR.out, rfl⟩
      · have HR := Lib.hid hR
        clear hR
        have e37 : a.tmps[37]? = some (.bool false) := flow_dep hdep 16 37 (by kernel_rfl) rfl
        clear hout hdep
        refine op_list (by rfl) ?_
        go_wp2
        exact withK_intro ⟨_, rfl, Below.refl _ _, HR.out, rfl⟩
      · have HR := Lib.hid hR
        clear hR
        have e8 := hout 8 (by decide)
        have e38 : a.tmps[38]? = some (.bool false) := flow_dep hdep 17 38 (by kernel_rfl) rfl
        have z0 := cell_below HR HM0.out
        have z1 := cell_below HR HMm.out
        clear hout hdep
        refine op_list (by rfl) ?_
        go_wp2
        exact withK_intro ⟨_, rfl, Below.refl _ _, HR.out, rfl⟩
      · have HR := Lib.hid hR
        clear hR
        have e8 := hout 8 (by decide)
        have e38 : a.tmps[38]? = some (.bool false) := flow_dep hdep 17 38 (by kernel_rfl) rfl
        have z0 := cell_below HR HM0.out
        have z1 := cell_below HR HMm.out
        clear hout hdep
        refine op_list (by rfl) ?_
        go_wp2
        exact withK_intro ⟨_, rfl, Below.refl _ _, HR.out, rfl⟩
      · have HR := Lib.hid hR
        clear hR
        have e39 : a.tmps[39]? = some (.agg #[.slice a1 n1 k1, .slice (some ⟨gb, 0, none⟩) (n2 + 1) mc]) := flow_dep hdep 18 39 (by kernel_rfl) rfl
        have e40 : a.tmps[40]? = some (.agg #[.slice a1 n1 k1, .slice (some ⟨gb, 0, none⟩) (n2 + 1) mc]) := flow_dep hdep 19 40 (by kernel_rfl) rfl
        have e38 : a.tmps[38]? = some (.bool false) := flow_dep hdep 17 38 (by kernel_rfl) rfl
        clear hout hdep
        refine op_list (by rfl) ?_
        go_wp2_with (go_at_call 18; refine (equal_r a1 _ n1 (n2 + 1) k1 mc a1 _ n1 (n2 + 1) k1 mc ⟨p.funcs, p.main ++ [s]⟩ ⟨p.funcs, p.main ++ [s]⟩ _ (HM2.out.stay HR.out) (HM2.out.stay HR.out) _ HN3.out).mono ?_; rintro e w' ⟨rfl, hb⟩; have HBc := Lib.hid hb; clear hb)
        exact withK_intro ⟨_, rfl, HBc.out, HR.out.trans (HBc.out.mono HR.out.size), rfl⟩
      · have HR := Lib.hid hR
        clear hR
        have e41 : a.tmps[41]? = some (.bool true) := flow_dep hdep 20 41 (by kernel_rfl) rfl
        have e38 : a.tmps[38]? = some (.bool false) := flow_dep hdep 17 38 (by kernel_rfl) rfl
        clear hout hdep
        refine op_list (by rfl) ?_
        go_wp2
        exact withK_intro ⟨_, rfl, Below.refl _ _, HR.out, rfl⟩
    case hl3 =>
      intro vs wx hR hφ
      have HR := Lib.hid hR
      clear hR
      rw [fill_congr _ [21, 22, 23, 24, 25, 26, 27, 28, 29, 30, 31, 32, 33, 34, 35, 36, 37, 38, 39, 40, 41, 42] vs (fun j => ([.agg #[.slice a1 n1 k1, .slice a2 n2 k2], .agg #[.slice c1 m1 j1, .slice c2 m2 j2], .bool bq, .agg #[.slice c1 m1 j1, .slice c2 m2 j2], .agg #[.slice a1 n1 k1, .slice a2 n2 k2], .bool bq, .bool false, .bool false, .agg #[.slice a1 n1 k1, .slice a2 n2 k2], .agg #[.slice a1 n1 k1, .slice (some ⟨gb, 0, none⟩) (n2 + 1) mc], .bool false, .bool false, .bool false, .agg #[.slice a1 n1 k1, .slice (some ⟨gb, 0, none⟩) (n2 + 1) mc], .agg #[.slice a1 n1 k1, .slice a2 n2 k2], .bool false, .bool false, .bool false, .agg #[.slice a1 n1 k1, .slice (some ⟨gb, 0, none⟩) (n2 + 1) mc], .agg #[.slice a1 n1 k1, .slice (some ⟨gb, 0, none⟩) (n2 + 1) mc], .bool true, .bool false] : List Value).getD j undef) (fun j hj => hφ j hj)]
      clear hφ vs
      refine op_list (by rfl) ?_
      simp only [fill, fillA, List.getD_cons_zero, List.getD_cons_succ, Nat.reduceAdd]
      have HR3 : Hid (Below W2.heap.size W2 wx) := HR
      go_wp2_with fail
      refine withK_intro ?_
      go_wp2_with fail
      obtain ⟨r, hr⟩ : ∃ r, p.right = r := ⟨_, rfl⟩
      obtain ⟨dp, hdp⟩ : ∃ d, p.depth = d := ⟨_, rfl⟩
      obtain ⟨sz, hsz⟩ : ∃ s, p.size = s := ⟨_, rfl⟩
      have HRI := Lib.hid hr
      have HDE := Lib.hid hdp
      have HSI := Lib.hid hsz
      clear hr hdp hsz HR
      cases bq
      case false =>
        refine region_flow rfl 23 rfl (by decide +kernel) [44, 45, 46, 47, 48, 49, 50, 51, 52, 53, 54, 55, 56, 57, 58, 59, 60, 61, 62, 63, 64, 65, 66] (by decide +kernel) rfl (by decide) (by simp) (fun w w' => Below w.heap.size w w') (fun w => Below W2.heap.size W2 w)
          (fun j v _ => v = ([.agg #[.slice a1 n1 k1, .slice a2 n2 k2], .agg #[.slice c1 m1 j1, .slice c2 m2 j2], .bool false, .bool false, undef, undef, undef, undef, undef, undef, undef, undef, undef, undef, undef, undef, undef, undef, undef, undef, undef, undef, undef] : List Value).getD j undef) (fun _ _ _ _ _ h => h) ?hr5 ?hs5 ?hl5
        case hs5 =>
          intro ix hix a wx hR hout hdep
          have hix' : ix = 0 ∨ ix = 1 ∨ ix = 2 ∨ ix = 3 ∨ ix = 4 ∨ ix = 5 ∨ ix = 6 ∨ ix = 7 ∨ ix = 8 ∨ ix = 9 ∨ ix = 10 ∨ ix = 11 ∨ ix = 12 ∨ ix = 13 ∨ ix = 14 ∨ ix = 15 ∨ ix = 16 ∨ ix = 17 ∨ ix = 18 ∨ ix = 19 ∨ ix = 20 ∨ ix = 21 ∨ ix = 22 := by omega
          rcases hix' with rfl | rfl | rfl | rfl | rfl | rfl | rfl | rfl | rfl | rfl | rfl | rfl | rfl | rfl | rfl | rfl | rfl | rfl | rfl | rfl | rfl | rfl | rfl
          · have HR := Lib.hid hR
            clear hR
            have e3 := hout 3 (by decide)
            have z0 := cell_below HR HP0.out
            have z1 := cell_below HR HPm.out
            clear hout hdep
            refine op_list (by rfl) ?_
            go_wp2
            exact withK_intro ⟨_, rfl, Below.refl _ _, HR.out, rfl⟩
          · have HR := Lib.hid hR
            clear hR
            have e4 := hout 4 (by decide)
            have z0 := cell_below HR HQ0.out
            have z1 := cell_below HR HQm.out
            clear hout hdep
            refine op_list (by rfl) ?_
            go_wp2
            exact withK_intro ⟨_, rfl, Below.refl _ _, HR.out, rfl⟩
          · have HR := Lib.hid hR
            clear hR
            have e44 : a.tmps[44]? = some (.agg #[.slice a1 n1 k1, .slice a2 n2 k2]) := flow_dep hdep 0 44 (by kernel_rfl) rfl
            have e45 : a.tmps[45]? = some (.agg #[.slice c1 m1 j1, .slice c2 m2 j2]) := flow_dep hdep 1 45 (by kernel_rfl) rfl
            clear hout hdep
            refine op_list (by rfl) ?_
            go_wp2_with (go_at_call 18; refine (equal_r a1 _ n1 n2 k1 k2 c1 _ m1 m2 j1 j2 p q _ (HP2.out.stay HR.out) (HQ2.out.stay HR.out) _ HPQ.out).mono ?_; rintro e w' ⟨rfl, hb⟩; have HBc := Lib.hid hb; clear hb)
            exact withK_intro ⟨_, rfl, HBc.out, HR.out.trans (HBc.out.mono HR.out.size), rfl⟩
          · have HR := Lib.hid hR
            clear hR
            have e46 : a.tmps[46]? = some (.bool false) := flow_dep hdep 2 46 (by kernel_rfl) rfl
            clear hout hdep
            refine op_list (by rfl) ?_
            go_wp2
            exact withK_intro ⟨_, rfl, Below.refl _ _, HR.out, rfl⟩
          · have HR := Lib.hid hR
            clear hR
            have e47 : a.tmps[47]? = some (.bool false) := flow_dep hdep 3 47 (by kernel_rfl) rfl
            clear hout hdep
            refine op_skip (by rfl) (by simp [Region.wanted, yielded, e47]) ?_
            exact ⟨_, rfl, Below.refl _ _, HR.out, rfl⟩
          · have HR := Lib.hid hR
            clear hR
            have e47 : a.tmps[47]? = some (.bool false) := flow_dep hdep 3 47 (by kernel_rfl) rfl
            clear hout hdep
            refine op_skip (by rfl) (by simp [Region.wanted, yielded, e47]) ?_
            exact ⟨_, rfl, Below.refl _ _, HR.out, rfl⟩
          · have HR := Lib.hid hR
            clear hR
            have e47 : a.tmps[47]? = some (.bool false) := flow_dep hdep 3 47 (by kernel_rfl) rfl
            clear hout hdep
            refine op_skip (by rfl) (by simp [Region.wanted, yielded, e47]) ?_
            exact ⟨_, rfl, Below.refl _ _, HR.out, rfl⟩
          · have HR := Lib.hid hR
            clear hR
            have e47 : a.tmps[47]? = some (.bool false) := flow_dep hdep 3 47 (by kernel_rfl) rfl
            clear hout hdep
            refine op_skip (by rfl) (by simp [Region.wanted, yielded, e47]) ?_
            exact ⟨_, rfl, Below.refl _ _, HR.out, rfl⟩
          · have HR := Lib.hid hR
            clear hR
            have e47 : a.tmps[47]? = some (.bool false) := flow_dep hdep 3 47 (by kernel_rfl) rfl
            clear hout hdep
            refine op_skip (by rfl) (by simp [Region.wanted, yielded, e47]) ?_
            exact ⟨_, rfl, Below.refl _ _, HR.out, rfl⟩
          · have HR := Lib.hid hR
            clear hR
            have e47 : a.tmps[47]? = some (.bool false) := flow_dep hdep 3 47 (by kernel_rfl) rfl
            clear hout hdep
            refine op_skip (by rfl) (by simp [Region.wanted, yielded, e47]) ?_
            exact ⟨_, rfl, Below.refl _ _, HR.out, rfl⟩
          · have HR := Lib.hid hR
            clear hR
            have e53 : a.tmps[53]? = some (undef) := flow_dep hdep 9 53 (by kernel_rfl) rfl
            clear hout hdep
            refine op_skip (by rfl) (by simp [Region.wanted, yielded, e53, undef]) ?_
            exact ⟨_, rfl, Below.refl _ _, HR.out, rfl⟩
          · have HR := Lib.hid hR
            clear hR
            have e53 : a.tmps[53]? = some (undef) := flow_dep hdep 9 53 (by kernel_rfl) rfl
            clear hout hdep
            refine op_skip (by rfl) (by simp [Region.wanted, yielded, e53, undef]) ?_
            exact ⟨_, rfl, Below.refl _ _, HR.out, rfl⟩
          · have HR := Lib.hid hR
            clear hR
            have e53 : a.tmps[53]? = some (undef) := flow_dep hdep 9 53 (by kernel_rfl) rfl
            clear hout hdep
            refine op_skip (by rfl) (by simp [Region.wanted, yielded, e53, undef]) ?_
            exact ⟨_, rfl, Below.refl _ _, HR.out, rfl⟩
          · have HR := Lib.hid hR
            clear hR
            have e53 : a.tmps[53]? = some (undef) := flow_dep hdep 9 53 (by kernel_rfl) rfl
            clear hout hdep
            refine op_skip (by rfl) (by simp [Region.wanted, yielded, e53, undef]) ?_
            exact ⟨_, rfl, Below.refl _ _, HR.out, rfl⟩
          · have HR := Lib.hid hR
            clear hR
            have e53 : a.tmps[53]? = some (undef) := flow_dep hdep 9 53 (by kernel_rfl) rfl
            clear hout hdep
            refine op_skip (by rfl) (by simp [Region.wanted, yielded, e53, undef]) ?_
            exact ⟨_, rfl, Below.refl _ _, HR.out, rfl⟩
          · have HR := Lib.hid hR
            clear hR
            have e47 : a.tmps[47]? = some (.bool false) := flow_dep hdep 3 47 (by kernel_rfl) rfl
            clear hout hdep
            refine op_skip (by rfl) (by simp [Region.wanted, yielded, e47]) ?_
            exact ⟨_, rfl, Below.refl _ _, HR.out, rfl⟩
          · have HR := Lib.hid hR
            clear hR
            have e47 : a.tmps[47]? = some (.bool false) := flow_dep hdep 3 47 (by kernel_rfl) rfl
            clear hout hdep
            refine op_skip (by rfl) (by simp [Region.wanted, yielded, e47]) ?_
            exact ⟨_, rfl, Below.refl _ _, HR.out, rfl⟩
          · have HR := Lib.hid hR
            clear hR
            have e60 : a.tmps[60]? = some (undef) := flow_dep hdep 16 60 (by kernel_rfl) rfl
            clear hout hdep
            refine op_skip (by rfl) (by simp [Region.wanted, yielded, e60, undef]) ?_
            exact ⟨_, rfl, Below.refl _ _, HR.out, rfl⟩
          · have HR := Lib.hid hR
            clear hR
            have e60 : a.tmps[60]? = some (undef) := flow_dep hdep 16 60 (by kernel_rfl) rfl
            clear hout hdep
            refine op_skip (by rfl) (by simp [Region.wanted, yielded, e60, undef]) ?_
            exact ⟨_, rfl, Below.refl _ _, HR.out, rfl⟩
          · have HR := Lib.hid hR
            clear hR
            have e60 : a.tmps[60]? = some (undef) := flow_dep hdep 16 60 (by kernel_rfl) rfl
            clear hout hdep
            refine op_skip (by rfl) (by simp [Region.wanted, yielded, e60, undef]) ?_
            exact ⟨_, rfl, Below.refl _ _, HR.out, rfl⟩
          · have HR := Lib.hid hR
            clear hR
            have e60 : a.tmps[60]? = some (undef) := flow_dep hdep 16 60 (by kernel_rfl) rfl
            clear hout hdep
            refine op_skip (by rfl) (by simp [Region.wanted, yielded, e60, undef]) ?_
            exact ⟨_, rfl, Below.refl _ _, HR.out, rfl⟩
          · have HR := Lib.hid hR
            clear hR
            have e60 : a.tmps[60]? = some (undef) := flow_dep hdep 16 60 (by kernel_rfl) rfl
            clear hout hdep
            refine op_skip (by rfl) (by simp [Region.wanted, yielded, e60, undef]) ?_
            exact ⟨_, rfl, Below.refl _ _, HR.out, rfl⟩
          · have HR := Lib.hid hR
            clear hR
            have e47 : a.tmps[47]? = some (.bool false) := flow_dep hdep 3 47 (by kernel_rfl) rfl
            clear hout hdep
            refine op_skip (by rfl) (by simp [Region.wanted, yielded, e47]) ?_
            exact ⟨_, rfl, Below.refl _ _, HR.out, rfl⟩
        case hl5 =>
          intro vs wx hR hφ
          have HR := Lib.hid hR
          clear hR
          rw [fill_congr _ [44, 45, 46, 47, 48, 49, 50, 51, 52, 53, 54, 55, 56, 57, 58, 59, 60, 61, 62, 63, 64, 65, 66] vs (fun j => ([.agg #[.slice a1 n1 k1, .slice a2 n2 k2], .agg #[.slice c1 m1 j1, .slice c2 m2 j2], .bool false, .bool false, undef, undef, undef, undef, undef, undef, undef, undef, undef, undef, undef, undef, undef, undef, undef, undef, undef, undef, undef] : List Value).getD j undef) (fun j hj => hφ j hj)]
          clear hφ vs
          refine op_list (by rfl) ?_
          simp only [fill, fillA, List.getD_cons_zero, List.getD_cons_succ, Nat.reduceAdd]
          have HR5 : Hid (Below W2.heap.size W2 wx) := HR
          go_wp2_with fail
          refine withK_intro ?_
          have x0 := cell_below HR HP0.out
          have x1 := cell_below HR HPm.out
          by_cases hn : n1 = 0
          · have h0 : ((n1 : Int) == 0) = true := by simp [hn]
            clear hn x1
            go_wp2
            go_ret
            exact ⟨rfl, HW1.out.trans ((HB2.out.trans (HR.out.mono HB2.out.size)).mono HW1.out.size)⟩
          · have h0 : ((n1 : Int) == 0) = false := by simp; omega
            have hpos : 0 < n1 := by omega
            have hposI : (0 : Int) < n1 := by omega
            clear hn x1
            go_wp2
            obtain ⟨wxo, hwxo⟩ : ∃ x, x = wx := ⟨_, rfl⟩
            subst hwxo
            have HBx : Hid (Below w1.heap.size w1 wxo) := HB2.out.trans (HR.out.mono HB2.out.size)
            have HPX0 : Hid (wxo.cell? ⟨w.heap.size, 0, none⟩ = some (.slice a1 n1 k1)) := x0
            have HPXm : Hid (wxo.cell? ⟨w.heap.size, 1, none⟩ = some (.slice a2 n2 k2)) := cell_below HR HPm.out
            clear x0
            refine region_flow rfl 8 rfl (by decide +kernel) [73, 74, 75, 76, 77, 78, 79, 9] (by decide +kernel) rfl (by decide) (by simp) (fun w w' => Below w.heap.size w w') (fun W => Below wxo.heap.size wxo W)
              (phi9 wxo w.heap.size a1 a2 p n1 k1 n2 k2 ff fg) (phi9_mono wxo w.heap.size a1 a2 p n1 k1 n2 k2 ff fg) (Below.refl _ _).drew ?hs9 ?hl9
            case hs9 =>
              intro ix hix a w9 hR hout hdep
              have HR := Lib.hid hR
              clear hR
              have hx8 : ix = 0 ∨ ix = 1 ∨ ix = 2 ∨ ix = 3 ∨ ix = 4 ∨ ix = 5 ∨ ix = 6 ∨ ix = 7 := by omega
              rcases hx8 with rfl | rfl | rfl | rfl | rfl | rfl | rfl | rfl
              · refine op_list (by rfl) ?_
                go_wp2
                exact withK_intro ⟨_, rfl, (Below.refl _ _).alloc (Nat.le_refl _) _, HR.out.alloc HR.out.size _, _, rfl⟩
              · have e3 := hout 3 (by decide)
                refine op_list (by rfl) ?_
                go_wp2
                exact withK_intro ⟨_, rfl, Below.refl _ _, HR.out, rfl⟩
              · obtain ⟨v, e74, rfl⟩ := hdep 1 74 (by kernel_rfl) rfl
                have y0 := cell_below HR HPX0.out
                refine op_list (by rfl) ?_
                go_wp2
                exact withK_intro ⟨_, rfl, Below.refl _ _, HR.out, rfl⟩
              · obtain ⟨v, e73, b0, rfl⟩ := hdep 0 73 (by kernel_rfl) rfl
                obtain ⟨v, e75, rfl⟩ := hdep 2 75 (by kernel_rfl) rfl
                refine op_list (by rfl) ?_
                refine wpList_copy _ rfl _ _ 22 rfl 35 iF (.agg #[.string ⟨#[]⟩, .slice none 0 0, .slice none 0 0]) 3 64 Tryd.underlying22 hi' hz0 hz1 hz2 b0 (eval_of e73) a1 bF oF n1 k1 (eval_of e75) HFR.out.at_ HFR.out.max HBF.out (rowF p.funcs ff fg) (fun j hj => cell_below HR (cell_below HBx (cell_below HW1 (HFR.out.cell j hj)))) HFR.out.one ?_
                intro fa fc w2 hc
                exact withK_intro ⟨_, rfl, hc.below, HR.out.trans (hc.below.mono HR.out.size), fa, fc, w9.heap.size, rfl, hc.lf HL1.out HR.out.size⟩
              · have e3 := hout 3 (by decide)
                refine op_list (by rfl) ?_
                go_wp2
                exact withK_intro ⟨_, rfl, Below.refl _ _, HR.out, rfl⟩
              · obtain ⟨v, e77, rfl⟩ := hdep 4 77 (by kernel_rfl) rfl
                have y1 := cell_below HR HPXm.out
                refine op_list (by rfl) ?_
                go_wp2
                exact withK_intro ⟨_, rfl, Below.refl _ _, HR.out, rfl⟩
              · obtain ⟨v, e76, fa, fc, gf, rfl, hF⟩ := hdep 3 76 (by kernel_rfl) rfl
                obtain ⟨v, e78, rfl⟩ := hdep 5 78 (by kernel_rfl) rfl
                have HF := Lib.hid hF
                clear hF
                refine op_list (by rfl) ?_
                go_wp2
                exact withK_intro ⟨_, rfl, Below.refl _ _, HR.out, fa, fc, gf, rfl, HF.out⟩
              · refine op_list (by rfl) ?_
                go_wp2
                exact withK_intro ⟨_, rfl, (Below.refl _ _).alloc (Nat.le_refl _) _, HR.out.alloc HR.out.size _, _, rfl, HR.out.size, heap_new_eq _ _ _ rfl⟩
            case hl9 =>
              intro vs w9 hR hφ
              obtain ⟨fa, fc, gf, e6, hF⟩ := hφ 6 (by decide)
              obtain ⟨g2, e7, hge2, hg2⟩ := hφ 7 (by decide)
              obtain ⟨rfl, hrow⟩ := hF.row hpos
              have HF := Lib.hid hF
              have HROW := Lib.hid hrow
              have HG2 := Lib.hid (And.intro hge2 hg2)
              have HR := Lib.hid hR
              have z0 := free_of_heap hg2 0
              have z1 := free_of_heap hg2 1
              have y0 := cell_of_heap hg2 0
              have y1 := cell_of_heap hg2 1
              simp only [List.getElem?_toArray, List.getElem?_cons_succ, List.getElem?_cons_zero] at y0 y1
              clear hF hrow hge2 hg2 hR hφ
              refine op_list (by rfl) ?_
              simp only [fill, fillA, e6, e7, Nat.reduceAdd]
              generalize vs 0 = v73
              generalize vs 1 = v74
              generalize vs 2 = v75
              generalize vs 3 = v76
              generalize vs 4 = v77
              generalize vs 5 = v78
              clear e6 e7
              go_wp2
              refine withK_intro ?_
              have HW3 : Hid (∀ W : World, W = (w9.setCell ⟨g2, 0, none⟩ (.slice (some ⟨gf, 0, none⟩) n1 fc)).setCell ⟨g2, 1, none⟩ (.slice a2 n2 k2) →
                  Below wxo.heap.size wxo W ∧ W.heap[g2]? = some (.cells #[.slice (some ⟨gf, 0, none⟩) n1 fc, .slice a2 n2 k2] 25 (0, 0)) ∧ RowF W gf p.funcs ff fg) := by
                rintro W rfl
                have hne := rowF_box HROW.out HG2.out.2
                refine ⟨(HR.out.setCell (p := ⟨g2, 0, none⟩) HG2.out.1 _).setCell (p := ⟨g2, 1, none⟩) HG2.out.1 _, heap_set (heap_set HG2.out.2 0 _) 1 _, ?_⟩
                obtain ⟨cur, hk, hj⟩ := HROW.out
                exact ⟨cur, by rw [set_heap _ _ _ _ _ hne, set_heap _ _ _ _ _ hne]; exact hk, hj⟩
              obtain ⟨hB3, hbox3, hrow3⟩ := HW3.out _ rfl
              generalize (w9.setCell ⟨g2, 0, none⟩ (.slice (some ⟨gf, 0, none⟩) n1 fc)).setCell ⟨g2, 1, none⟩ (.slice a2 n2 k2) = W3 at hB3 hbox3 hrow3 ⊢
              clear HW3 HR y0 y1 z0 z1 HROW
              have HB3 := Lib.hid hB3
              have HRW3 := Lib.hid hrow3
              have HBOX3 := Lib.hid hbox3
              have HO0 : Hid (W3.cell? ⟨g2, 0, none⟩ = some (.slice (some ⟨gf, 0, none⟩) n1 fc)) := cell_of_heap hbox3 0
              obtain ⟨nm, hnm⟩ : ∃ s, (p.funcs.getD 0 default).name = s := ⟨_, rfl⟩
              have HNM := Lib.hid hnm
              have HC0 : Hid (W3.cell? ⟨gf, 0, none⟩ = some (.string nm)) := by
                obtain ⟨cur, hk, hj⟩ := hrow3
                have h1 := (cell_of_heap hk 0).trans (hj 0 (by have := HL1.out; omega))
                rw [← hnm]; exact h1
              have hadd : ∀ W : World, (Op.stringOp .add nm ⟨#[120]⟩).run Tryd.prog W = .ok (.string (nm ++ ⟨#[120]⟩)) W := fun W => run_string_add_sum W nm ⟨#[120]⟩ (by have := HNS.out hpos; rw [HNM.out] at this; show nm.size + 1 ≤ 9223372036854775807; omega)
              have hlf := HF.out.le
              have hmf : fc ≤ 9223372036854775807 := HF.out.max
              clear hB3 hbox3 hrow3 hnm
              go_wp2_with fail
              refine region_flow rfl 10 rfl (by decide +kernel) [80, 81, 82, 83, 84, 85, 86, 87, 88, 89] (by decide +kernel) rfl (by decide) (by simp) (fun w w' => Below w.heap.size w w') (fun w => Below W3.heap.size W3 w)
                (fun j v _ => v = ([.pointer (some ⟨g2, 0, none⟩), .slice (some ⟨gf, 0, none⟩) n1 fc, .pointer (some ⟨g2, 0, none⟩), .slice (some ⟨gf, 0, none⟩) n1 fc, .pointer (some ⟨gf, 0, none⟩), .pointer (some ⟨gf, 0, none⟩), .string nm, .string (nm ++ ⟨#[120]⟩), .pointer (some ⟨gf, 0, none⟩), .pointer (some ⟨gf, 0, none⟩)] : List Value).getD j undef) (fun _ _ _ _ _ h => h) ?hr10 ?hs10 ?hl10
              case hs10 =>
                intro ix hix a wx hR hout hdep
                have hix' : ix = 0 ∨ ix = 1 ∨ ix = 2 ∨ ix = 3 ∨ ix = 4 ∨ ix = 5 ∨ ix = 6 ∨ ix = 7 ∨ ix = 8 ∨ ix = 9 := by omega
                rcases hix' with rfl | rfl | rfl | rfl | rfl | rfl | rfl | rfl | rfl | rfl
                · have HR := Lib.hid hR
                  clear hR
                  have e9 := hout 9 (by decide)
                  clear hout hdep
                  refine op_list (by rfl) ?_
                  go_wp2
                  exact withK_intro ⟨_, rfl, Below.refl _ _, HR.out, rfl⟩
                · have HR := Lib.hid hR
                  clear hR
                  have e80 : a.tmps[80]? = some (.pointer (some ⟨g2, 0, none⟩)) := flow_dep hdep 0 80 (by kernel_rfl) rfl
                  have z0 := cell_below HR HO0.out
                  clear hout hdep
                  refine op_list (by rfl) ?_
                  go_wp2
                  exact withK_intro ⟨_, rfl, Below.refl _ _, HR.out, rfl⟩
                · have HR := Lib.hid hR
                  clear hR
                  have e9 := hout 9 (by decide)
                  clear hout hdep
                  refine op_list (by rfl) ?_
                  go_wp2
                  exact withK_intro ⟨_, rfl, Below.refl _ _, HR.out, rfl⟩
                · have HR := Lib.hid hR
                  clear hR
                  have e82 : a.tmps[82]? = some (.pointer (some ⟨g2, 0, none⟩)) := flow_dep hdep 2 82 (by kernel_rfl) rfl
                  have z0 := cell_below HR HO0.out
                  clear hout hdep
                  refine op_list (by rfl) ?_
                  go_wp2
                  exact withK_intro ⟨_, rfl, Below.refl _ _, HR.out, rfl⟩
                · have HR := Lib.hid hR
                  clear hR
                  have e83 : a.tmps[83]? = some (.slice (some ⟨gf, 0, none⟩) n1 fc) := flow_dep hdep 3 83 (by kernel_rfl) rfl
                  clear hout hdep
                  refine op_list (by rfl) ?_
                  go_wp2
                  exact withK_intro ⟨_, rfl, Below.refl _ _, HR.out, rfl⟩
                · have HR := Lib.hid hR
                  clear hR
                  have e84 : a.tmps[84]? = some (.pointer (some ⟨gf, 0, none⟩)) := flow_dep hdep 4 84 (by kernel_rfl) rfl
                  clear hout hdep
                  refine op_list (by rfl) ?_
                  go_wp2
                  exact withK_intro ⟨_, rfl, Below.refl _ _, HR.out, rfl⟩
                · have HR := Lib.hid hR
                  clear hR
                  have e85 : a.tmps[85]? = some (.pointer (some ⟨gf, 0, none⟩)) := flow_dep hdep 5 85 (by kernel_rfl) rfl
                  have z0 := cell_below HR HC0.out
                  clear hout hdep
                  refine op_list (by rfl) ?_
                  go_wp2
                  exact withK_intro ⟨_, rfl, Below.refl _ _, HR.out, rfl⟩
                · have HR := Lib.hid hR
                  clear hR
                  have e86 : a.tmps[86]? = some (.string nm) := flow_dep hdep 6 86 (by kernel_rfl) rfl
                  clear hout hdep
                  refine op_list (by rfl) ?_
                  go_wp2
                  exact withK_intro ⟨_, rfl, Below.refl _ _, HR.out, rfl⟩
                · have HR := Lib.hid hR
                  clear hR
                  have e81 : a.tmps[81]? = some (.slice (some ⟨gf, 0, none⟩) n1 fc) := flow_dep hdep 1 81 (by kernel_rfl) rfl
                  clear hout hdep
                  refine op_list (by rfl) ?_
                  go_wp2
                  exact withK_intro ⟨_, rfl, Below.refl _ _, HR.out, rfl⟩
                · have HR := Lib.hid hR
                  clear hR
                  have e88 : a.tmps[88]? = some (.pointer (some ⟨gf, 0, none⟩)) := flow_dep hdep 8 88 (by kernel_rfl) rfl
                  clear hout hdep
                  refine op_list (by rfl) ?_
                  go_wp2
                  exact withK_intro ⟨_, rfl, Below.refl _ _, HR.out, rfl⟩
              case hl10 =>
                intro vs wx hR hφ
                have HR := Lib.hid hR
                clear hR
                rw [fill_congr _ [80, 81, 82, 83, 84, 85, 86, 87, 88, 89] vs (fun j => ([.pointer (some ⟨g2, 0, none⟩), .slice (some ⟨gf, 0, none⟩) n1 fc, .pointer (some ⟨g2, 0, none⟩), .slice (some ⟨gf, 0, none⟩) n1 fc, .pointer (some ⟨gf, 0, none⟩), .pointer (some ⟨gf, 0, none⟩), .string nm, .string (nm ++ ⟨#[120]⟩), .pointer (some ⟨gf, 0, none⟩), .pointer (some ⟨gf, 0, none⟩)] : List Value).getD j undef) (fun j hj => hφ j hj)]
                clear hφ vs
                refine op_list (by rfl) ?_
                simp only [fill, fillA, List.getD_cons_zero, List.getD_cons_succ, Nat.reduceAdd]
                have HRW := Lib.hid (HRW3.out.stay HR.out)
                have HBX := Lib.hid ((HR.out.block _ (lt_of_heap HBOX3.out)).trans HBOX3.out)
                have y0 := cell_below HR HC0.out
                have z0 : wx.frozen? ⟨gf, 0, none⟩ = false := by obtain ⟨cur, hk, _⟩ := HRW.out; exact free_of_heap hk 0
                go_wp2_with fail
                have hRW4 := HRW.out.rename (by have := HL1.out; omega) ⟨#[120]⟩
                rw [HNM.out] at hRW4
                have hne : gf ≠ g2 := rowF_box HRW.out HBX.out
                have hb4 := own_of_grown HBX.out (grown_set wx gf 0 (.string (nm ++ ⟨#[120]⟩))) (fun e => hne (by cases e; rfl))
                have hB4 : Below wxo.heap.size wxo (wx.setCell ⟨gf, 0, none⟩ (.string (nm ++ ⟨#[120]⟩))) := (HB3.out.trans (HR.out.mono HB3.out.size)).setCell (p := ⟨gf, 0, none⟩) HF.out.ge _
                generalize wx.setCell ⟨gf, 0, none⟩ (.string (nm ++ ⟨#[120]⟩)) = W4 at hRW4 hb4 hB4 ⊢
                have HB4 : Hid (Below w1.heap.size w1 W4) := HBx.out.trans (hB4.mono HBx.out.size)
                have HW4 : Hid (Below w.heap.size w W4) := HW1.out.trans (HB4.out.mono HW1.out.size)
                have HP4 : Hid (PR W4 (.slice a1 n1 k1) (.slice a2 n2 k2) p) := HP1.out.stay HB4.out
                have HO4 : Hid (PR W4 (.slice (some ⟨gf, 0, none⟩) n1 fc) (.slice a2 n2 k2) ⟨renamed p.funcs ⟨#[120]⟩, p.main⟩) := PR.of (renamed_fsl HFR.out HW4.out HF.out.le HF.out.max ⟨#[120]⟩ hRW4) HP4.out.ms
                have HNN := Lib.hid (renamed_not p (by have := HL1.out; omega) ⟨#[120]⟩ (by decide))
                have x0 := cell_below (Lib.hid hB4) HPX0.out
                have x1 := cell_below (Lib.hid hB4) HPXm.out
                have o0 := cell_of_heap hb4 0
                have o1 := cell_of_heap hb4 1
                simp only [List.getElem?_toArray, List.getElem?_cons_succ, List.getElem?_cons_zero] at o0 o1
                clear hRW4 hb4 hB4 hadd y0 z0 hlf hmf
                refine withK_intro ?_
                go_wp2_with (go_at_call 18; refine (equal_r a1 _ n1 n2 k1 k2 _ a2 n1 n2 fc k2 p ⟨renamed p.funcs ⟨#[120]⟩, p.main⟩ _ HP4.out HO4.out _ HNN.out).mono ?_; rintro e w9 ⟨rfl, hb⟩; have HBc := Lib.hid hb; clear hb)
                go_ret
                exact ⟨rfl, HW4.out.trans (HBc.out.mono HW4.out.size)⟩
              case hr10 => exact (Below.refl _ _).drew
        case hr5 => exact HR3.out.drew
      case true =>
        have hpq := PT.same_one HPQ.out
        have HRI2 : Hid (q.right = r) := by rw [← hpq]; exact HRI
        have HDE2 : Hid (q.depth = dp) := by rw [← hpq]; exact HDE
        have HSI2 : Hid (q.size = sz) := by rw [← hpq]; exact HSI
        clear hpq
        refine region_flow rfl 23 rfl (by decide +kernel) [44, 45, 46, 47, 48, 49, 50, 51, 52, 53, 54, 55, 56, 57, 58, 59, 60, 61, 62, 63, 64, 65, 66] (by decide +kernel) rfl (by decide) (by simp) (fun w w' => Below w.heap.size w w') (fun w => Below W2.heap.size W2 w)
          (fun j v _ => v = ([.agg #[.slice a1 n1 k1, .slice a2 n2 k2], .agg #[.slice c1 m1 j1, .slice c2 m2 j2], .bool true, .bool true, .agg #[.slice a1 n1 k1, .slice a2 n2 k2], .int .i64 sz, .agg #[.slice c1 m1 j1, .slice c2 m2 j2], .int .i64 sz, .bool false, .bool false, .agg #[.slice a1 n1 k1, .slice a2 n2 k2], .int .i64 dp, .agg #[.slice c1 m1 j1, .slice c2 m2 j2], .int .i64 dp, .bool false, .bool false, .bool false, .agg #[.slice a1 n1 k1, .slice a2 n2 k2], .int .i64 r, .agg #[.slice c1 m1 j1, .slice c2 m2 j2], .int .i64 r, .bool false, .bool false] : List Value).getD j undef) (fun _ _ _ _ _ h => h) ?hr5 ?hs5 ?hl5
        case hs5 =>
          intro ix hix a wx hR hout hdep
          have hix' : ix = 0 ∨ ix = 1 ∨ ix = 2 ∨ ix = 3 ∨ ix = 4 ∨ ix = 5 ∨ ix = 6 ∨ ix = 7 ∨ ix = 8 ∨ ix = 9 ∨ ix = 10 ∨ ix = 11 ∨ ix = 12 ∨ ix = 13 ∨ ix = 14 ∨ ix = 15 ∨ ix = 16 ∨ ix = 17 ∨ ix = 18 ∨ ix = 19 ∨ ix = 20 ∨ ix = 21 ∨ ix = 22 := by omega
          rcases hix' with rfl | rfl | rfl | rfl | rfl | rfl | rfl | rfl | rfl | rfl | rfl | rfl | rfl | rfl | rfl | rfl | rfl | rfl | rfl | rfl | rfl | rfl | rfl
          · have HR := Lib.hid hR
            clear hR
            have e3 := hout 3 (by decide)
            have z0 := cell_below HR HP0.out
            have z1 := cell_below HR HPm.out
            clear hout hdep
            refine op_list (by rfl) ?_
            go_wp2
            exact withK_intro ⟨_, rfl, Below.refl _ _, HR.out, rfl⟩
          · have HR := Lib.hid hR
            clear hR
            have e4 := hout 4 (by decide)
            have z0 := cell_below HR HQ0.out
            have z1 := cell_below HR HQm.out
            clear hout hdep
            refine op_list (by rfl) ?_
            go_wp2
            exact withK_intro ⟨_, rfl, Below.refl _ _, HR.out, rfl⟩
          · have HR := Lib.hid hR
            clear hR
            have e44 : a.tmps[44]? = some (.agg #[.slice a1 n1 k1, .slice a2 n2 k2]) := flow_dep hdep 0 44 (by kernel_rfl) rfl
            have e45 : a.tmps[45]? = some (.agg #[.slice c1 m1 j1, .slice c2 m2 j2]) := flow_dep hdep 1 45 (by kernel_rfl) rfl
            clear hout hdep
            refine op_list (by rfl) ?_
            go_wp2_with (go_at_call 18; refine (equal_r a1 _ n1 n2 k1 k2 c1 _ m1 m2 j1 j2 p q _ (HP2.out.stay HR.out) (HQ2.out.stay HR.out) _ HPQ.out).mono ?_; rintro e w' ⟨rfl, hb⟩; have HBc := Lib.hid hb; clear hb)
            exact withK_intro ⟨_, rfl, HBc.out, HR.out.trans (HBc.out.mono HR.out.size), rfl⟩
          · have HR := Lib.hid hR
            clear hR
            have e46 : a.tmps[46]? = some (.bool true) := flow_dep hdep 2 46 (by kernel_rfl) rfl
            clear hout hdep
            refine op_list (by rfl) ?_
            go_wp2
            exact withK_intro ⟨_, rfl, Below.refl _ _, HR.out, rfl⟩
          · have HR := Lib.hid hR
            clear hR
            have e3 := hout 3 (by decide)
            have e47 : a.tmps[47]? = some (.bool true) := flow_dep hdep 3 47 (by kernel_rfl) rfl
            have z0 := cell_below HR HP0.out
            have z1 := cell_below HR HPm.out
            clear hout hdep
            refine op_list (by rfl) ?_
            go_wp2
            exact withK_intro ⟨_, rfl, Below.refl _ _, HR.out, rfl⟩
          · have HR := Lib.hid hR
            clear hR
            have e48 : a.tmps[48]? = some (.agg #[.slice a1 n1 k1, .slice a2 n2 k2]) := flow_dep hdep 4 48 (by kernel_rfl) rfl
            have e47 : a.tmps[47]? = some (.bool true) := flow_dep hdep 3 47 (by kernel_rfl) rfl
            clear hout hdep
            refine op_list (by rfl) ?_
            go_wp2_with (go_at_call 16; refine (size_r a1 _ n1 n2 k1 k2 p _ (HT2.out.below HR.out) (HP2.out.stay HR.out) _ HSI.out).mono ?_; rintro e w' ⟨rfl, hb⟩; have HBc := Lib.hid hb; clear hb)
            exact withK_intro ⟨_, rfl, HBc.out, HR.out.trans (HBc.out.mono HR.out.size), rfl⟩
          · have HR := Lib.hid hR
            clear hR
            have e4 := hout 4 (by decide)
            have e47 : a.tmps[47]? = some (.bool true) := flow_dep hdep 3 47 (by kernel_rfl) rfl
            have z0 := cell_below HR HQ0.out
            have z1 := cell_below HR HQm.out
            clear hout hdep
            refine op_list (by rfl) ?_
            go_wp2
            exact withK_intro ⟨_, rfl, Below.refl _ _, HR.out, rfl⟩
          · have HR := Lib.hid hR
            clear hR
            have e50 : a.tmps[50]? = some (.agg #[.slice c1 m1 j1, .slice c2 m2 j2]) := flow_dep hdep 6 50 (by kernel_rfl) rfl
            have e47 : a.tmps[47]? = some (.bool true) := flow_dep hdep 3 47 (by kernel_rfl) rfl
            clear hout hdep
            refine op_list (by rfl) ?_
            go_wp2_with (go_at_call 16; refine (size_r c1 _ m1 m2 j1 j2 q _ (HT2.out.below HR.out) (HQ2.out.stay HR.out) _ HSI2.out).mono ?_; rintro e w' ⟨rfl, hb⟩; have HBc := Lib.hid hb; clear hb)
            exact withK_intro ⟨_, rfl, HBc.out, HR.out.trans (HBc.out.mono HR.out.size), rfl⟩
          · have HR := Lib.hid hR
            clear hR
            have e49 : a.tmps[49]? = some (.int .i64 sz) := flow_dep hdep 5 49 (by kernel_rfl) rfl
            have e51 : a.tmps[51]? = some (.int .i64 sz) := flow_dep hdep 7 51 (by kernel_rfl) rfl
            have e47 : a.tmps[47]? = some (.bool true) := flow_dep hdep 3 47 (by kernel_rfl) rfl
            clear hout hdep
            refine op_list (by rfl) ?_
            go_wp2
            exact withK_intro ⟨_, rfl, Below.refl _ _, HR.out, rfl⟩
          · have HR := Lib.hid hR
            clear hR
            have e52 : a.tmps[52]? = some (.bool false) := flow_dep hdep 8 52 (by kernel_rfl) rfl
            have e47 : a.tmps[47]? = some (.bool true) := flow_dep hdep 3 47 (by kernel_rfl) rfl
            clear hout hdep
            refine op_list (by rfl) ?_
            go_wp2
            exact withK_intro ⟨_, rfl, Below.refl _ _, HR.out, rfl⟩
          · have HR := Lib.hid hR
            clear hR
            have e3 := hout 3 (by decide)
            have e53 : a.tmps[53]? = some (.bool false) := flow_dep hdep 9 53 (by kernel_rfl) rfl
            have z0 := cell_below HR HP0.out
            have z1 := cell_below HR HPm.out
            clear hout hdep
            refine op_list (by rfl) ?_
            go_wp2
            exact withK_intro ⟨_, rfl, Below.refl _ _, HR.out, rfl⟩
          · have HR := Lib.hid hR
            clear hR
            have e54 : a.tmps[54]? = some (.agg #[.slice a1 n1 k1, .slice a2 n2 k2]) := flow_dep hdep 10 54 (by kernel_rfl) rfl
            have e53 : a.tmps[53]? = some (.bool false) := flow_dep hdep 9 53 (by kernel_rfl) rfl
            clear hout hdep
            refine op_list (by rfl) ?_
            go_wp2_with (go_at_call 14; refine (depth_r a1 _ n1 n2 k1 k2 p _ (HT2.out.below HR.out) (HP2.out.stay HR.out) _ HDE.out).mono ?_; rintro e w' ⟨rfl, hb⟩; have HBc := Lib.hid hb; clear hb)
            exact withK_intro ⟨_, rfl, HBc.out, HR.out.trans (HBc.out.mono HR.out.size), rfl⟩
          · have HR := Lib.hid hR
            clear hR
            have e4 := hout 4 (by decide)
            have e53 : a.tmps[53]? = some (.bool false) := flow_dep hdep 9 53 (by kernel_rfl) rfl
            have z0 := cell_below HR HQ0.out
            have z1 := cell_below HR HQm.out
            clear hout hdep
            refine op_list (by rfl) ?_
            go_wp2
            exact withK_intro ⟨_, rfl, Below.refl _ _, HR.out, rfl⟩
          · have HR := Lib.hid hR
            clear hR
            have e56 : a.tmps[56]? = some (.agg #[.slice c1 m1 j1, .slice c2 m2 j2]) := flow_dep hdep 12 56 (by kernel_rfl) rfl
            have e53 : a.tmps[53]? = some (.bool false) := flow_dep hdep 9 53 (by kernel_rfl) rfl
            clear hout hdep
            refine op_list (by rfl) ?_
            go_wp2_with (go_at_call 14; refine (depth_r c1 _ m1 m2 j1 j2 q _ (HT2.out.below HR.out) (HQ2.out.stay HR.out) _ HDE2.out).mono ?_; rintro e w' ⟨rfl, hb⟩; have HBc := Lib.hid hb; clear hb)
            exact withK_intro ⟨_, rfl, HBc.out, HR.out.trans (HBc.out.mono HR.out.size), rfl⟩
          · have HR := Lib.hid hR
            clear hR
            have e55 : a.tmps[55]? = some (.int .i64 dp) := flow_dep hdep 11 55 (by kernel_rfl) rfl
            have e57 : a.tmps[57]? = some (.int .i64 dp) := flow_dep hdep 13 57 (by kernel_rfl) rfl
            have e53 : a.tmps[53]? = some (.bool false) := flow_dep hdep 9 53 (by kernel_rfl) rfl
            clear hout hdep
            refine op_list (by rfl) ?_
            go_wp2
            exact withK_intro ⟨_, rfl, Below.refl _ _, HR.out, rfl⟩
          · have HR := Lib.hid hR
            clear hR
            have e53 : a.tmps[53]? = some (.bool false) := flow_dep hdep 9 53 (by kernel_rfl) rfl
            have e58 : a.tmps[58]? = some (.bool false) := flow_dep hdep 14 58 (by kernel_rfl) rfl
            have e47 : a.tmps[47]? = some (.bool true) := flow_dep hdep 3 47 (by kernel_rfl) rfl
            clear hout hdep
            refine op_list (by rfl) ?_
            go_wp2
            exact withK_intro ⟨_, rfl, Below.refl _ _, HR.out, rfl⟩
          · have HR := Lib.hid hR
            clear hR
            have e59 : a.tmps[59]? = some (.bool false) := flow_dep hdep 15 59 (by kernel_rfl) rfl
            have e47 : a.tmps[47]? = some (.bool true) := flow_dep hdep 3 47 (by kernel_rfl) rfl
            clear hout hdep
            refine op_list (by rfl) ?_
            go_wp2
            exact withK_intro ⟨_, rfl, Below.refl _ _, HR.out, rfl⟩
          · have HR := Lib.hid hR
            clear hR
            have e3 := hout 3 (by decide)
            have e60 : a.tmps[60]? = some (.bool false) := flow_dep hdep 16 60 (by kernel_rfl) rfl
            have z0 := cell_below HR HP0.out
            have z1 := cell_below HR HPm.out
            clear hout hdep
            refine op_list (by rfl) ?_
            go_wp2
            exact withK_intro ⟨_, rfl, Below.refl _ _, HR.out, rfl⟩
          · have HR := Lib.hid hR
            clear hR
            have e61 : a.tmps[61]? = some (.agg #[.slice a1 n1 k1, .slice a2 n2 k2]) := flow_dep hdep 17 61 (by kernel_rfl) rfl
            have e60 : a.tmps[60]? = some (.bool false) := flow_dep hdep 16 60 (by kernel_rfl) rfl
            clear hout hdep
            refine op_list (by rfl) ?_
            go_wp2_with (go_at_call 12; refine (right_r a1 _ n1 n2 k1 k2 p _ (HT2.out.below HR.out) (HP2.out.stay HR.out) _ HRI.out).mono ?_; rintro e w' ⟨rfl, hb⟩; have HBc := Lib.hid hb; clear hb)
            exact withK_intro ⟨_, rfl, HBc.out, HR.out.trans (HBc.out.mono HR.out.size), rfl⟩
          · have HR := Lib.hid hR
            clear hR
            have e4 := hout 4 (by decide)
            have e60 : a.tmps[60]? = some (.bool false) := flow_dep hdep 16 60 (by kernel_rfl) rfl
            have z0 := cell_below HR HQ0.out
            have z1 := cell_below HR HQm.out
            clear hout hdep
            refine op_list (by rfl) ?_
            go_wp2
            exact withK_intro ⟨_, rfl, Below.refl _ _, HR.out, rfl⟩
          · have HR := Lib.hid hR
            clear hR
            have e63 : a.tmps[63]? = some (.agg #[.slice c1 m1 j1, .slice c2 m2 j2]) := flow_dep hdep 19 63 (by kernel_rfl) rfl
            have e60 : a.tmps[60]? = some (.bool false) := flow_dep hdep 16 60 (by kernel_rfl) rfl
            clear hout hdep
            refine op_list (by rfl) ?_
            go_wp2_with (go_at_call 12; refine (right_r c1 _ m1 m2 j1 j2 q _ (HT2.out.below HR.out) (HQ2.out.stay HR.out) _ HRI2.out).mono ?_; rintro e w' ⟨rfl, hb⟩; have HBc := Lib.hid hb; clear hb)
            exact withK_intro ⟨_, rfl, HBc.out, HR.out.trans (HBc.out.mono HR.out.size), rfl⟩
          · have HR := Lib.hid hR
            clear hR
            have e62 : a.tmps[62]? = some (.int .i64 r) := flow_dep hdep 18 62 (by kernel_rfl) rfl
            have e64 : a.tmps[64]? = some (.int .i64 r) := flow_dep hdep 20 64 (by kernel_rfl) rfl
            have e60 : a.tmps[60]? = some (.bool false) := flow_dep hdep 16 60 (by kernel_rfl) rfl
            clear hout hdep
            refine op_list (by rfl) ?_
            go_wp2
            exact withK_intro ⟨_, rfl, Below.refl _ _, HR.out, rfl⟩
          · have HR := Lib.hid hR
            clear hR
            have e60 : a.tmps[60]? = some (.bool false) := flow_dep hdep 16 60 (by kernel_rfl) rfl
            have e65 : a.tmps[65]? = some (.bool false) := flow_dep hdep 21 65 (by kernel_rfl) rfl
            have e47 : a.tmps[47]? = some (.bool true) := flow_dep hdep 3 47 (by kernel_rfl) rfl
            clear hout hdep
            refine op_list (by rfl) ?_
            go_wp2
            exact withK_intro ⟨_, rfl, Below.refl _ _, HR.out, rfl⟩
        case hl5 =>
          intro vs wx hR hφ
          have HR := Lib.hid hR
          clear hR
          rw [fill_congr _ [44, 45, 46, 47, 48, 49, 50, 51, 52, 53, 54, 55, 56, 57, 58, 59, 60, 61, 62, 63, 64, 65, 66] vs (fun j => ([.agg #[.slice a1 n1 k1, .slice a2 n2 k2], .agg #[.slice c1 m1 j1, .slice c2 m2 j2], .bool true, .bool true, .agg #[.slice a1 n1 k1, .slice a2 n2 k2], .int .i64 sz, .agg #[.slice c1 m1 j1, .slice c2 m2 j2], .int .i64 sz, .bool false, .bool false, .agg #[.slice a1 n1 k1, .slice a2 n2 k2], .int .i64 dp, .agg #[.slice c1 m1 j1, .slice c2 m2 j2], .int .i64 dp, .bool false, .bool false, .bool false, .agg #[.slice a1 n1 k1, .slice a2 n2 k2], .int .i64 r, .agg #[.slice c1 m1 j1, .slice c2 m2 j2], .int .i64 r, .bool false, .bool false] : List Value).getD j undef) (fun j hj => hφ j hj)]
          clear hφ vs
          refine op_list (by rfl) ?_
          simp only [fill, fillA, List.getD_cons_zero, List.getD_cons_succ, Nat.reduceAdd]
          have HR5 : Hid (Below W2.heap.size W2 wx) := HR
          go_wp2_with fail
          refine withK_intro ?_
          have x0 := cell_below HR HP0.out
          have x1 := cell_below HR HPm.out
          by_cases hn : n1 = 0
          · have h0 : ((n1 : Int) == 0) = true := by simp [hn]
            clear hn x1
            go_wp2
            go_ret
            exact ⟨rfl, HW1.out.trans ((HB2.out.trans (HR.out.mono HB2.out.size)).mono HW1.out.size)⟩
          · have h0 : ((n1 : Int) == 0) = false := by simp; omega
            have hpos : 0 < n1 := by omega
            have hposI : (0 : Int) < n1 := by omega
            clear hn x1
            go_wp2
            obtain ⟨wxo, hwxo⟩ : ∃ x, x = wx := ⟨_, rfl⟩
            subst hwxo
            have HBx : Hid (Below w1.heap.size w1 wxo) := HB2.out.trans (HR.out.mono HB2.out.size)
            have HPX0 : Hid (wxo.cell? ⟨w.heap.size, 0, none⟩ = some (.slice a1 n1 k1)) := x0
            have HPXm : Hid (wxo.cell? ⟨w.heap.size, 1, none⟩ = some (.slice a2 n2 k2)) := cell_below HR HPm.out
            clear x0
            refine region_flow rfl 8 rfl (by decide +kernel) [73, 74, 75, 76, 77, 78, 79, 9] (by decide +kernel) rfl (by decide) (by simp) (fun w w' => Below w.heap.size w w') (fun W => Below wxo.heap.size wxo W)
              (phi9 wxo w.heap.size a1 a2 p n1 k1 n2 k2 ff fg) (phi9_mono wxo w.heap.size a1 a2 p n1 k1 n2 k2 ff fg) (Below.refl _ _).drew ?hs9 ?hl9
            case hs9 =>
              intro ix hix a w9 hR hout hdep
              have HR := Lib.hid hR
              clear hR
              have hx8 : ix = 0 ∨ ix = 1 ∨ ix = 2 ∨ ix = 3 ∨ ix = 4 ∨ ix = 5 ∨ ix = 6 ∨ ix = 7 := by omega
              rcases hx8 with rfl | rfl | rfl | rfl | rfl | rfl | rfl | rfl
              · refine op_list (by rfl) ?_
                go_wp2
                exact withK_intro ⟨_, rfl, (Below.refl _ _).alloc (Nat.le_refl _) _, HR.out.alloc HR.out.size _, _, rfl⟩
              · have e3 := hout 3 (by decide)
                refine op_list (by rfl) ?_
                go_wp2
                exact withK_intro ⟨_, rfl, Below.refl _ _, HR.out, rfl⟩
              · obtain ⟨v, e74, rfl⟩ := hdep 1 74 (by kernel_rfl) rfl
                have y0 := cell_below HR HPX0.out
                refine op_list (by rfl) ?_
                go_wp2
                exact withK_intro ⟨_, rfl, Below.refl _ _, HR.out, rfl⟩
              · obtain ⟨v, e73, b0, rfl⟩ := hdep 0 73 (by kernel_rfl) rfl
                obtain ⟨v, e75, rfl⟩ := hdep 2 75 (by kernel_rfl) rfl
                refine op_list (by rfl) ?_
                refine wpList_copy _ rfl _ _ 22 rfl 35 iF (.agg #[.string ⟨#[]⟩, .slice none 0 0, .slice none 0 0]) 3 64 Tryd.underlying22 hi' hz0 hz1 hz2 b0 (eval_of e73) a1 bF oF n1 k1 (eval_of e75) HFR.out.at_ HFR.out.max HBF.out (rowF p.funcs ff fg) (fun j hj => cell_below HR (cell_below HBx (cell_below HW1 (HFR.out.cell j hj)))) HFR.out.one ?_
                intro fa fc w2 hc
                exact withK_intro ⟨_, rfl, hc.below, HR.out.trans (hc.below.mono HR.out.size), fa, fc, w9.heap.size, rfl, hc.lf HL1.out HR.out.size⟩
              · have e3 := hout 3 (by decide)
                refine op_list (by rfl) ?_
                go_wp2
                exact withK_intro ⟨_, rfl, Below.refl _ _, HR.out, rfl⟩
              · obtain ⟨v, e77, rfl⟩ := hdep 4 77 (by kernel_rfl) rfl
                have y1 := cell_below HR HPXm.out
                refine op_list (by rfl) ?_
                go_wp2
                exact withK_intro ⟨_, rfl, Below.refl _ _, HR.out, rfl⟩
              · obtain ⟨v, e76, fa, fc, gf, rfl, hF⟩ := hdep 3 76 (by kernel_rfl) rfl
                obtain ⟨v, e78, rfl⟩ := hdep 5 78 (by kernel_rfl) rfl
                have HF := Lib.hid hF
                clear hF
                refine op_list (by rfl) ?_
                go_wp2
                exact withK_intro ⟨_, rfl, Below.refl _ _, HR.out, fa, fc, gf, rfl, HF.out⟩
              · refine op_list (by rfl) ?_
                go_wp2
                exact withK_intro ⟨_, rfl, (Below.refl _ _).alloc (Nat.le_refl _) _, HR.out.alloc HR.out.size _, _, rfl, HR.out.size, heap_new_eq _ _ _ rfl⟩
            case hl9 =>
              intro vs w9 hR hφ
              obtain ⟨fa, fc, gf, e6, hF⟩ := hφ 6 (by decide)
              obtain ⟨g2, e7, hge2, hg2⟩ := hφ 7 (by decide)
              obtain ⟨rfl, hrow⟩ := hF.row hpos
              have HF := Lib.hid hF
              have HROW := Lib.hid hrow
              have HG2 := Lib.hid (And.intro hge2 hg2)
              have HR := Lib.hid hR
              have z0 := free_of_heap hg2 0
              have z1 := free_of_heap hg2 1
              have y0 := cell_of_heap hg2 0
              have y1 := cell_of_heap hg2 1
              simp only [List.getElem?_toArray, List.getElem?_cons_succ, List.getElem?_cons_zero] at y0 y1
              clear hF hrow hge2 hg2 hR hφ
              refine op_list (by rfl) ?_
              simp only [fill, fillA, e6, e7, Nat.reduceAdd]
              generalize vs 0 = v73
              generalize vs 1 = v74
              generalize vs 2 = v75
              generalize vs 3 = v76
              generalize vs 4 = v77
              generalize vs 5 = v78
              clear e6 e7
              go_wp2
              refine withK_intro ?_
              have HW3 : Hid (∀ W : World, W = (w9.setCell ⟨g2, 0, none⟩ (.slice (some ⟨gf, 0, none⟩) n1 fc)).setCell ⟨g2, 1, none⟩ (.slice a2 n2 k2) →
                  Below wxo.heap.size wxo W ∧ W.heap[g2]? = some (.cells #[.slice (some ⟨gf, 0, none⟩) n1 fc, .slice a2 n2 k2] 25 (0, 0)) ∧ RowF W gf p.funcs ff fg) := by
                rintro W rfl
                have hne := rowF_box HROW.out HG2.out.2
                refine ⟨(HR.out.setCell (p := ⟨g2, 0, none⟩) HG2.out.1 _).setCell (p := ⟨g2, 1, none⟩) HG2.out.1 _, heap_set (heap_set HG2.out.2 0 _) 1 _, ?_⟩
                obtain ⟨cur, hk, hj⟩ := HROW.out
                exact ⟨cur, by rw [set_heap _ _ _ _ _ hne, set_heap _ _ _ _ _ hne]; exact hk, hj⟩
              obtain ⟨hB3, hbox3, hrow3⟩ := HW3.out _ rfl
              generalize (w9.setCell ⟨g2, 0, none⟩ (.slice (some ⟨gf, 0, none⟩) n1 fc)).setCell ⟨g2, 1, none⟩ (.slice a2 n2 k2) = W3 at hB3 hbox3 hrow3 ⊢
              clear HW3 HR y0 y1 z0 z1 HROW
              have HB3 := Lib.hid hB3
              have HRW3 := Lib.hid hrow3
              have HBOX3 := Lib.hid hbox3
              have HO0 : Hid (W3.cell? ⟨g2, 0, none⟩ = some (.slice (some ⟨gf, 0, none⟩) n1 fc)) := cell_of_heap hbox3 0
              obtain ⟨nm, hnm⟩ : ∃ s, (p.funcs.getD 0 default).name = s := ⟨_, rfl⟩
              have HNM := Lib.hid hnm
              have HC0 : Hid (W3.cell? ⟨gf, 0, none⟩ = some (.string nm)) := by
                obtain ⟨cur, hk, hj⟩ := hrow3
                have h1 := (cell_of_heap hk 0).trans (hj 0 (by have := HL1.out; omega))
                rw [← hnm]; exact h1
              have hadd : ∀ W : World, (Op.stringOp .add nm ⟨#[120]⟩).run Tryd.prog W = .ok (.string (nm ++ ⟨#[120]⟩)) W := fun W => run_string_add_sum W nm ⟨#[120]⟩ (by have := HNS.out hpos; rw [HNM.out] at this; show nm.size + 1 ≤ 9223372036854775807; omega)
              have hlf := HF.out.le
              have hmf : fc ≤ 9223372036854775807 := HF.out.max
              clear hB3 hbox3 hrow3 hnm
              go_wp2_with fail
              refine region_flow rfl 10 rfl (by decide +kernel) [80, 81, 82, 83, 84, 85, 86, 87, 88, 89] (by decide +kernel) rfl (by decide) (by simp) (fun w w' => Below w.heap.size w w') (fun w => Below W3.heap.size W3 w)
                (fun j v _ => v = ([.pointer (some ⟨g2, 0, none⟩), .slice (some ⟨gf, 0, none⟩) n1 fc, .pointer (some ⟨g2, 0, none⟩), .slice (some ⟨gf, 0, none⟩) n1 fc, .pointer (some ⟨gf, 0, none⟩), .pointer (some ⟨gf, 0, none⟩), .string nm, .string (nm ++ ⟨#[120]⟩), .pointer (some ⟨gf, 0, none⟩), .pointer (some ⟨gf, 0, none⟩)] : List Value).getD j undef) (fun _ _ _ _ _ h => h) ?hr10 ?hs10 ?hl10
              case hs10 =>
                intro ix hix a wx hR hout hdep
                have hix' : ix = 0 ∨ ix = 1 ∨ ix = 2 ∨ ix = 3 ∨ ix = 4 ∨ ix = 5 ∨ ix = 6 ∨ ix = 7 ∨ ix = 8 ∨ ix = 9 := by omega
                rcases hix' with rfl | rfl | rfl | rfl | rfl | rfl | rfl | rfl | rfl | rfl
                · have HR := Lib.hid hR
                  clear hR
                  have e9 := hout 9 (by decide)
                  clear hout hdep
                  refine op_list (by rfl) ?_
                  go_wp2
                  exact withK_intro ⟨_, rfl, Below.refl _ _, HR.out, rfl⟩
                · have HR := Lib.hid hR
                  clear hR
                  have e80 : a.tmps[80]? = some (.pointer (some ⟨g2, 0, none⟩)) := flow_dep hdep 0 80 (by kernel_rfl) rfl
                  have z0 := cell_below HR HO0.out
                  clear hout hdep
                  refine op_list (by rfl) ?_
                  go_wp2
                  exact withK_intro ⟨_, rfl, Below.refl _ _, HR.out, rfl⟩
                · have HR := Lib.hid hR
                  clear hR
                  have e9 := hout 9 (by decide)
                  clear hout hdep
                  refine op_list (by rfl) ?_
                  go_wp2
                  exact withK_intro ⟨_, rfl, Below.refl _ _, HR.out, rfl⟩
                · have HR := Lib.hid hR
                  clear hR
                  have e82 : a.tmps[82]? = some (.pointer (some ⟨g2, 0, none⟩)) := flow_dep hdep 2 82 (by kernel_rfl) rfl
                  have z0 := cell_below HR HO0.out
                  clear hout hdep
                  refine op_list (by rfl) ?_
                  go_wp2
                  exact withK_intro ⟨_, rfl, Below.refl _ _, HR.out, rfl⟩
                · have HR := Lib.hid hR
                  clear hR
                  have e83 : a.tmps[83]? = some (.slice (some ⟨gf, 0, none⟩) n1 fc) := flow_dep hdep 3 83 (by kernel_rfl) rfl
                  clear hout hdep
                  refine op_list (by rfl) ?_
                  go_wp2
                  exact withK_intro ⟨_, rfl, Below.refl _ _, HR.out, rfl⟩
                · have HR := Lib.hid hR
                  clear hR
                  have e84 : a.tmps[84]? = some (.pointer (some ⟨gf, 0, none⟩)) := flow_dep hdep 4 84 (by kernel_rfl) rfl
                  clear hout hdep
                  refine op_list (by rfl) ?_
                  go_wp2
                  exact withK_intro ⟨_, rfl, Below.refl _ _, HR.out, rfl⟩
                · have HR := Lib.hid hR
                  clear hR
                  have e85 : a.tmps[85]? = some (.pointer (some ⟨gf, 0, none⟩)) := flow_dep hdep 5 85 (by kernel_rfl) rfl
                  have z0 := cell_below HR HC0.out
                  clear hout hdep
                  refine op_list (by rfl) ?_
                  go_wp2
                  exact withK_intro ⟨_, rfl, Below.refl _ _, HR.out, rfl⟩
                · have HR := Lib.hid hR
                  clear hR
                  have e86 : a.tmps[86]? = some (.string nm) := flow_dep hdep 6 86 (by kernel_rfl) rfl
                  clear hout hdep
                  refine op_list (by rfl) ?_
                  go_wp2
                  exact withK_intro ⟨_, rfl, Below.refl _ _, HR.out, rfl⟩
                · have HR := Lib.hid hR
                  clear hR
                  have e81 : a.tmps[81]? = some (.slice (some ⟨gf, 0, none⟩) n1 fc) := flow_dep hdep 1 81 (by kernel_rfl) rfl
                  clear hout hdep
                  refine op_list (by rfl) ?_
                  go_wp2
                  exact withK_intro ⟨_, rfl, Below.refl _ _, HR.out, rfl⟩
                · have HR := Lib.hid hR
                  clear hR
                  have e88 : a.tmps[88]? = some (.pointer (some ⟨gf, 0, none⟩)) := flow_dep hdep 8 88 (by kernel_rfl) rfl
                  clear hout hdep
                  refine op_list (by rfl) ?_
                  go_wp2
                  exact withK_intro ⟨_, rfl, Below.refl _ _, HR.out, rfl⟩
              case hl10 =>
                intro vs wx hR hφ
                have HR := Lib.hid hR
                clear hR
                rw [fill_congr _ [80, 81, 82, 83, 84, 85, 86, 87, 88, 89] vs (fun j => ([.pointer (some ⟨g2, 0, none⟩), .slice (some ⟨gf, 0, none⟩) n1 fc, .pointer (some ⟨g2, 0, none⟩), .slice (some ⟨gf, 0, none⟩) n1 fc, .pointer (some ⟨gf, 0, none⟩), .pointer (some ⟨gf, 0, none⟩), .string nm, .string (nm ++ ⟨#[120]⟩), .pointer (some ⟨gf, 0, none⟩), .pointer (some ⟨gf, 0, none⟩)] : List Value).getD j undef) (fun j hj => hφ j hj)]
                clear hφ vs
                refine op_list (by rfl) ?_
                simp only [fill, fillA, List.getD_cons_zero, List.getD_cons_succ, Nat.reduceAdd]
                have HRW := Lib.hid (HRW3.out.stay HR.out)
                have HBX := Lib.hid ((HR.out.block _ (lt_of_heap HBOX3.out)).trans HBOX3.out)
                have y0 := cell_below HR HC0.out
                have z0 : wx.frozen? ⟨gf, 0, none⟩ = false := by obtain ⟨cur, hk, _⟩ := HRW.out; exact free_of_heap hk 0
                go_wp2_with fail
                have hRW4 := HRW.out.rename (by have := HL1.out; omega) ⟨#[120]⟩
                rw [HNM.out] at hRW4
                have hne : gf ≠ g2 := rowF_box HRW.out HBX.out
                have hb4 := own_of_grown HBX.out (grown_set wx gf 0 (.string (nm ++ ⟨#[120]⟩))) (fun e => hne (by cases e; rfl))
                have hB4 : Below wxo.heap.size wxo (wx.setCell ⟨gf, 0, none⟩ (.string (nm ++ ⟨#[120]⟩))) := (HB3.out.trans (HR.out.mono HB3.out.size)).setCell (p := ⟨gf, 0, none⟩) HF.out.ge _
                generalize wx.setCell ⟨gf, 0, none⟩ (.string (nm ++ ⟨#[120]⟩)) = W4 at hRW4 hb4 hB4 ⊢
                have HB4 : Hid (Below w1.heap.size w1 W4) := HBx.out.trans (hB4.mono HBx.out.size)
                have HW4 : Hid (Below w.heap.size w W4) := HW1.out.trans (HB4.out.mono HW1.out.size)
                have HP4 : Hid (PR W4 (.slice a1 n1 k1) (.slice a2 n2 k2) p) := HP1.out.stay HB4.out
                have HO4 : Hid (PR W4 (.slice (some ⟨gf, 0, none⟩) n1 fc) (.slice a2 n2 k2) ⟨renamed p.funcs ⟨#[120]⟩, p.main⟩) := PR.of (renamed_fsl HFR.out HW4.out HF.out.le HF.out.max ⟨#[120]⟩ hRW4) HP4.out.ms
                have HNN := Lib.hid (renamed_not p (by have := HL1.out; omega) ⟨#[120]⟩ (by decide))
                have x0 := cell_below (Lib.hid hB4) HPX0.out
                have x1 := cell_below (Lib.hid hB4) HPXm.out
                have o0 := cell_of_heap hb4 0
                have o1 := cell_of_heap hb4 1
                simp only [List.getElem?_toArray, List.getElem?_cons_succ, List.getElem?_cons_zero] at o0 o1
                clear hRW4 hb4 hB4 hadd y0 z0 hlf hmf
                refine withK_intro ?_
                go_wp2_with (go_at_call 18; refine (equal_r a1 _ n1 n2 k1 k2 _ a2 n1 n2 fc k2 p ⟨renamed p.funcs ⟨#[120]⟩, p.main⟩ _ HP4.out HO4.out _ HNN.out).mono ?_; rintro e w9 ⟨rfl, hb⟩; have HBc := Lib.hid hb; clear hb)
                go_ret
                exact ⟨rfl, HW4.out.trans (HBc.out.mono HW4.out.size)⟩
              case hr10 => exact (Below.refl _ _).drew
        case hr5 => exact HR3.out.drew
    case hr3 => exact (Below.refl _ _).drew
end Go.Proofs.YtplckmpamekloaaDoor
