/- CompileAdds' walk. -/
import Derived.Test.YthjjcmmonjajhaaDoorAddsKit
import Derived.Test.YthjjcmmonjajhaaDoorCompShown
import Derived.Test.YthjjcmmonjajhaaDoorTreeBulk
import Derived.BigQuiet
namespace Go.Proofs.YthjjcmmonjajhaaDoor
open Go.RowKit Go.Sort
set_option linter.unusedVariables false

def box0 : Obj := .cells #[.slice none 0 0, .slice none 0 0] 25
def exprC (y : Int) : Obj := .cells #[.int .i64 1, .int .i64 y, .string ⟨#[]⟩, .slice none 0 0] 51
def stmtC (be : Nat) : List Value := [.int .i64 5, .string ⟨#[]⟩, .int .i64 0, .slice (some ⟨be, 0, none⟩) 1 1, .slice none 0 0, .slice none 0 0]
/-- What each operation of the statement that makes the longer program comes to. -/
def phiA (w1 : World) (Bp : Nat) (a1 a2 : Option Addr) (n1 k1 n2 k2 : Nat) (y : Int) (rows : List Value) : Nat → Value → World → Prop
  | 0, v, _ => v = .pointer (some ⟨Bp, 0, none⟩)
  | 1, v, _ => v = .slice a1 n1 k1
  | 2, v, w => ∃ b0, v = .slice (some ⟨b0, 0, none⟩) 0 0 ∧ w.ownsRow w1.heap.size 53 6 v 0 []
  | 3, v, _ => v = .pointer (some ⟨Bp, 1, none⟩)
  | 4, v, _ => v = .slice a2 n2 k2
  | 5, v, w => w.ownsRow w1.heap.size 53 6 v n2 rows
  | 6, v, _ => v = .int .i64 y
  | 7, v, _ => v = .agg #[.int .i64 1, .int .i64 y, .string ⟨#[]⟩, .slice none 0 0]
  | 8, v, w => ∃ be, v = .slice (some ⟨be, 0, none⟩) 1 1 ∧ w.heap[be]? = some (exprC y)
  | 9, v, w => ∃ be, v = .agg #[.int .i64 5, .string ⟨#[]⟩, .int .i64 0, .slice (some ⟨be, 0, none⟩) 1 1, .slice none 0 0, .slice none 0 0] ∧ w.heap[be]? = some (exprC y)
  | 10, v, w => ∃ bs be, v = .slice (some ⟨bs, 0, none⟩) 1 1 ∧ w.heap[bs]? = some (.cells (stmtC be).toArray 53 (0, 0)) ∧ w.heap[be]? = some (exprC y)
  | 11, v, w => ∃ be, w.ownsRow w1.heap.size 53 6 v (n2 + 1) (rows ++ stmtC be) ∧ w.heap[be]? = some (exprC y)
  | 12, v, w => ∃ vm be, v = .agg #[.slice a1 n1 k1, vm] ∧ w.ownsRow w1.heap.size 53 6 vm (n2 + 1) (rows ++ stmtC be) ∧ w.heap[be]? = some (exprC y)
  | _, v, w => ∃ g, v = .pointer (some ⟨g, 0, none⟩) ∧ w1.heap.size ≤ g ∧ w.heap[g]? = some box0
def killA (i j : Nat) : Bool := (i == 5 && j == 2) || (i == 11 && (j == 2 || j == 5 || j == 10))
theorem phiA_stay {w1 : World} {Bp : Nat} {a1 a2 : Option Addr} {n1 k1 n2 k2 : Nat} {y : Int} {rows : List Value} {i : Nat} {v : Value} {w w' : World} (hb : Below w.heap.size w w')
    (h : phiA w1 Bp a1 a2 n1 k1 n2 k2 y rows i v w) : phiA w1 Bp a1 a2 n1 k1 n2 k2 y rows i v w' := by
  have hk : ∀ b o, w.heap[b]? = some o → w'.heap[b]? = some o := fun b o q => (hb.block b (lt_of_heap q)).trans q
  unfold phiA at h ⊢
  split at h <;> first
    | exact h
    | exact own_hold9 h hb
    | (obtain ⟨b0, e, q⟩ := h; exact ⟨b0, e, own_hold9 q hb⟩)
    | (obtain ⟨bs, e, q⟩ := h; exact ⟨bs, e, hk _ _ q⟩)
    | (obtain ⟨bs, be, e, q, q'⟩ := h; exact ⟨bs, be, e, hk _ _ q, hk _ _ q'⟩)
    | (obtain ⟨be, q, q'⟩ := h; exact ⟨be, own_hold9 q hb, hk _ _ q'⟩)
    | (obtain ⟨vm, be, e, q, q'⟩ := h; exact ⟨vm, be, e, own_hold9 q hb, hk _ _ q'⟩)
    | (obtain ⟨g, e, q, q'⟩ := h; exact ⟨g, e, q, hk _ _ q'⟩)
/-- A box of another type stays while a row of one's own is written. -/
theorem box_stays {W W' : World} {base : Nat} {e : TypeId} {size n : Nat} {v : Value} {xs : List Value} (ho : W.ownsRow base e size v n xs) (hg : W.grownBy W' v.ownBlock) {b : Nat} {cs : Array Value} {t : TypeId} (hb : W.heap[b]? = some (.cells cs t (0, 0))) (ht : t ≠ e) : W'.heap[b]? = some (.cells cs t (0, 0)) :=
  own_of_grown hb hg (own_ne_box ho hb ht)
theorem add_at0 (L : List VI) (y : Int) : (L ++ [(⟨1, 0, y⟩ : VI), ⟨19, 0, 0⟩] ++ [(⟨1, 0, 0⟩ : VI)] ++ [(⟨18, 0, 0⟩ : VI)]).getD L.length default = ⟨1, 0, y⟩ := by
  rw [List.append_assoc, List.append_assoc, List.getD_eq_getElem?_getD, List.getElem?_append_right (by omega)]; simp
theorem add_at1 (L : List VI) (y : Int) : (L ++ [(⟨1, 0, y⟩ : VI), ⟨19, 0, 0⟩] ++ [(⟨1, 0, 0⟩ : VI)] ++ [(⟨18, 0, 0⟩ : VI)]).getD (L.length + 1) default = ⟨19, 0, 0⟩ := by
  rw [List.append_assoc, List.append_assoc, List.getD_eq_getElem?_getD, List.getElem?_append_right (by omega)]; simp
theorem add_at2 (L : List VI) (y : Int) : (L ++ [(⟨1, 0, y⟩ : VI), ⟨19, 0, 0⟩] ++ [(⟨1, 0, 0⟩ : VI)] ++ [(⟨18, 0, 0⟩ : VI)]).getD (L.length + 2) default = ⟨1, 0, 0⟩ := by
  rw [List.append_assoc, List.append_assoc, List.getD_eq_getElem?_getD, List.getElem?_append_right (by omega)]; simp
theorem add_at3 (L : List VI) (y : Int) : (L ++ [(⟨1, 0, y⟩ : VI), ⟨19, 0, 0⟩] ++ [(⟨1, 0, 0⟩ : VI)] ++ [(⟨18, 0, 0⟩ : VI)]).getD (L.length + 3) default = ⟨18, 0, 0⟩ := by
  rw [List.append_assoc, List.append_assoc, List.getD_eq_getElem?_getD, List.getElem?_append_right (by omega)]; simp
theorem phiA_grown5 {w1 : World} {Bp : Nat} {a1 a2 : Option Addr} {n1 k1 n2 k2 : Nat} {y : Int} {rows : List Value} {w w' : World} {b0 : Nat} (ho : w.ownsRow w1.heap.size 53 6 (.slice (some ⟨b0, 0, none⟩) 0 0) 0 []) (hg : w.grownBy w' (Value.slice (some ⟨b0, 0, none⟩) 0 0).ownBlock)
    (j : Nat) (v : Value) (hj : j < 14) (h5 : j ≠ 5) (hk : killA 5 j = false) (h : phiA w1 Bp a1 a2 n1 k1 n2 k2 y rows j v w) : phiA w1 Bp a1 a2 n1 k1 n2 k2 y rows j v w' := by
  have ho' := ho
  obtain ⟨_, ⟨h0, _⟩ | ⟨g, cap, cur, e, _, hk0, _, _, hsz, _⟩⟩ := ho'
  · cases h0
  · cases e
    have hc : cur.size = 0 := by omega
    have hg' : w.grownBy w' (some b0) := hg
    have hE : ∀ be, w.heap[be]? = some (exprC y) → w'.heap[be]? = some (exprC y) := fun be q => box_stays ho hg q (by decide)
    have hj' : j = 0 ∨ j = 1 ∨ j = 2 ∨ j = 3 ∨ j = 4 ∨ j = 6 ∨ j = 7 ∨ j = 8 ∨ j = 9 ∨ j = 10 ∨ j = 11 ∨ j = 12 ∨ j = 13 := by omega
    rcases hj' with rfl | rfl | rfl | rfl | rfl | rfl | rfl | rfl | rfl | rfl | rfl | rfl | rfl
    · exact h
    · exact h
    · cases hk
    · exact h
    · exact h
    · exact h
    · exact h
    · obtain ⟨be, e, q⟩ := h; exact ⟨be, e, hE _ q⟩
    · obtain ⟨be, e, q⟩ := h; exact ⟨be, e, hE _ q⟩
    · obtain ⟨bs, be, e, q, q'⟩ := h
      refine ⟨bs, be, e, own_of_grown q hg' ?_, hE _ q'⟩
      intro e'; cases e'
      rw [hk0] at q; injection q with q; injection q with q1 _ _; subst q1
      have : (stmtC be).toArray.size = 6 := rfl
      omega
    · obtain ⟨be, q, q'⟩ := h; exact ⟨be, own_apart q (by omega) hk0 hc hg', hE _ q'⟩
    · obtain ⟨vm, be, e, q, q'⟩ := h; exact ⟨vm, be, e, own_apart q (by omega) hk0 hc hg', hE _ q'⟩
    · obtain ⟨g2, e, q, q'⟩ := h; exact ⟨g2, e, q, box_stays ho hg q' (by decide)⟩
theorem phiA_grown11 {w1 : World} {Bp : Nat} {a1 a2 : Option Addr} {n1 k1 n2 k2 : Nat} {y : Int} {rows : List Value} {w w' : World} {v5 : Value} (ho : w.ownsRow w1.heap.size 53 6 v5 n2 rows) (hg : w.grownBy w' v5.ownBlock)
    (j : Nat) (v : Value) (hj : j < 14) (h8 : j ≠ 11) (h9 : j ≠ 12) (hk : killA 11 j = false) (h : phiA w1 Bp a1 a2 n1 k1 n2 k2 y rows j v w) : phiA w1 Bp a1 a2 n1 k1 n2 k2 y rows j v w' := by
  have hE : ∀ be, w.heap[be]? = some (exprC y) → w'.heap[be]? = some (exprC y) := fun be q => box_stays ho hg q (by decide)
  have hj' : j = 0 ∨ j = 1 ∨ j = 2 ∨ j = 3 ∨ j = 4 ∨ j = 5 ∨ j = 6 ∨ j = 7 ∨ j = 8 ∨ j = 9 ∨ j = 10 ∨ j = 13 := by omega
  rcases hj' with rfl | rfl | rfl | rfl | rfl | rfl | rfl | rfl | rfl | rfl | rfl | rfl
  · exact h
  · exact h
  · cases hk
  · exact h
  · exact h
  · cases hk
  · exact h
  · exact h
  · obtain ⟨be, e, q⟩ := h; exact ⟨be, e, hE _ q⟩
  · obtain ⟨be, e, q⟩ := h; exact ⟨be, e, hE _ q⟩
  · cases hk
  · obtain ⟨g2, e, q, q'⟩ := h; exact ⟨g2, e, q, box_stays ho hg q' (by decide)⟩

set_option maxHeartbeats 8000000 in
set_option maxRecDepth 1000000 in
theorem adds_ok (a1 a2 : Option Addr) (n1 n2 k1 k2 : Nat) (p : PT) (ns y : Int) (hy : Go.bits .and .i64 ns 4611686018427387903 = y) (y0 : 0 ≤ y) (y1 : y ≤ 4611686018427387903) (mb mn : Nat) (w : World) (ht : TabAll w mb mn) (hp : PR w (.slice a1 n1 k1) (.slice a2 n2 k2) p) (hk2 : k2 ≤ 1353245080300) (hN : p.nodes.length ≤ 1048576) (hr : p.resolve = 0) :
    Calls Tryd.prog 5 #[.agg #[.slice a1 n1 k1, .slice a2 n2 k2], .int .i64 ns] w fun e w' => e = .returned (.bool true) ∧ Below w.heap.size w w' := by
  obtain ⟨iS, hi'', hz0', hz1', hz2'⟩ := info_parts infoSt
  obtain ⟨ml, ml2, _⟩ := ssl_len hp.2
  obtain ⟨bS, oS, sf, sg, sh, hsr⟩ := hp.2.row
  have HBS : Hid (n2 * 104 ≤ 140737488355328) := by show n2 * 104 ≤ _; omega
  have HBS1 : Hid ((n2 + 1) * 104 ≤ 140737488355328) := by show (n2 + 1) * 104 ≤ _; omega
  have HSR := Lib.hid hsr
  have HT := Lib.hid ht
  have HP := Lib.hid hp
  have HN := Lib.hid hN
  have HR0 := Lib.hid hr
  have HY := Lib.hid (And.intro y0 y1)
  clear ht hp hN hr y0 y1 hsr ml ml2 hk2
  have HB0 := hb_start w
  have HBA : Hid (Below w.heap.size w (w.alloc (.cells #[.slice a1 n1 k1, .slice a2 n2 k2] 25))) := hb_alloc HB0 _
  have HXA : Hid ((w.alloc (.cells #[.slice a1 n1 k1, .slice a2 n2 k2] 25)).heap[w.heap.size]? = some (.cells #[.slice a1 n1 k1, .slice a2 n2 k2] 25 (0, 0))) := heap_alloc_new _ _
  go_enter Tryd.func5, Tryd.ntmps5
  go_wp2_with fail
  refine (shown_r mb mn _ (HT.out.below HBA.out)).mono ?_
  rintro e w1 ⟨rfl, hb⟩
  have HB1 : Hid (Below w.heap.size w w1) := hb_step HBA hb
  have HX1 := Lib.hid ((hb.block _ (lt_of_heap HXA.out)).trans HXA.out)
  have c0 : w1.cell? ⟨w.heap.size, 0, none⟩ = some (.slice a1 n1 k1) := cell_of_heap HX1.out 0
  have c1 : w1.cell? ⟨w.heap.size, 1, none⟩ = some (.slice a2 n2 k2) := cell_of_heap HX1.out 1
  clear hb
  go_wp2_with fail
  refine (compile_r a1 a2 n1 n2 k1 k2 p mb mn _ (HT.out.below HB1.out).tree (HT.out.below HB1.out).smp (HP.out.stay HB1.out) (by have := HN.out; omega) _ HR0.out).mono ?_
  rintro e w2 ⟨v, rfl, hb, hv⟩
  have HB2 : Hid (Below w.heap.size w w2) := hb_step HB1 hb
  rw [if_pos rfl] at hv
  obtain ⟨va, vc, rfl⟩ := hv.shape
  have hpl : p.code.length = p.all.length := p.code_len9
  rw [hpl] at hv
  rw [hpl]
  have hm33 : p.all.length ≤ 33 := (PT.all_ok (PT.resolve_parts HR0.out).1 HN.out).1
  have hm1 : 1 ≤ p.all.length := by have := p.all_len; omega
  generalize hm : p.all.length = m at hv hm33 hm1 ⊢
  have HM := Lib.hid hm
  have HV := Lib.hid (hv.stay ((Below.refl w2.heap.size w2).alloc (Nat.le_refl _) (.cells #[.slice va m vc] 29)))
  have HBX : Hid (Below w.heap.size w (w2.alloc (.cells #[.slice va m vc] 29))) := hb_alloc HB2 _
  have HXC : Hid ((w2.alloc (.cells #[.slice va m vc] 29)).heap[w2.heap.size]? = some (.cells #[.slice va m vc] 29 (0, 0))) := heap_alloc_new _ _
  have HX2 := Lib.hid ((Below.heap_alloc w2 (.cells #[.slice va m vc] 29) w.heap.size (Nat.lt_of_lt_of_le (lt_of_heap HX1.out) hb.size)).trans ((hb.block _ (lt_of_heap HX1.out)).trans HX1.out))
  clear c0 c1 hb hv hm hpl HX1 HXA HBA
  go_wp2_with fail
  generalize hWc : w2.alloc (.cells #[.slice va m vc] 29) = Wc at HV HBX HXC HX2 ⊢
  generalize hcB : w2.heap.size = cB at HXC ⊢
  clear hWc hcB HB2 HB1
  refine region_flow_kill rfl 14 rfl (by decide +kernel) [26, 27, 28, 29, 30, 31, 32, 33, 34, 35, 36, 37, 38, 8] (by decide +kernel) rfl (by decide) (by simp) killA (by decide +kernel) (fun w => Below Wc.heap.size Wc w)
    (phiA Wc w.heap.size a1 a2 n1 k1 n2 k2 y ((List.range (n2 * 6)).map (rowC p.main sf sg sh))) (Below.refl _ _).drew ?hs6 ?hl6
  case hs6 =>
    intro ix hix a wx hR hout hdep
    have HR := Lib.hid hR
    clear hR
    have hx14 : ix = 0 ∨ ix = 1 ∨ ix = 2 ∨ ix = 3 ∨ ix = 4 ∨ ix = 5 ∨ ix = 6 ∨ ix = 7 ∨ ix = 8 ∨ ix = 9 ∨ ix = 10 ∨ ix = 11 ∨ ix = 12 ∨ ix = 13 := by omega
    rcases hx14 with rfl | rfl | rfl | rfl | rfl | rfl | rfl | rfl | rfl | rfl | rfl | rfl | rfl | rfl
    · have e2 := hout 2 (by decide)
      refine op_list (by rfl) ?_
      go_wp2
      exact withK_intro ⟨_, rfl, fun j v _ _ _ _ h => phiA_stay (Below.refl _ _) h, HR.out, rfl⟩
    · obtain ⟨v, e26, rfl⟩ := hdep 0 26 (by kernel_rfl) rfl
      have y0 := cell_of_heap ((HR.out.block _ (lt_of_heap HX2.out)).trans HX2.out) 0
      simp only [List.getElem?_toArray, List.getElem?_cons_zero] at y0
      refine op_list (by rfl) ?_
      go_wp2
      exact withK_intro ⟨_, rfl, fun j v _ _ _ _ h => phiA_stay (Below.refl _ _) h, HR.out, rfl⟩
    · refine op_list (by rfl) ?_
      go_wp2
      exact withK_intro ⟨_, rfl, fun j v _ _ _ _ h => phiA_stay ((Below.refl _ _).alloc (Nat.le_refl _) _) h, HR.out.alloc HR.out.size _, _, rfl, own_empty9 _ _ _ _ HR.out.size⟩
    · have e2 := hout 2 (by decide)
      refine op_list (by rfl) ?_
      go_wp2
      exact withK_intro ⟨_, rfl, fun j v _ _ _ _ h => phiA_stay (Below.refl _ _) h, HR.out, rfl⟩
    · obtain ⟨v, e29, rfl⟩ := hdep 3 29 (by kernel_rfl) rfl
      have y1 := cell_of_heap ((HR.out.block _ (lt_of_heap HX2.out)).trans HX2.out) 1
      simp only [List.getElem?_toArray, List.getElem?_cons_succ, List.getElem?_cons_zero] at y1
      refine op_list (by rfl) ?_
      go_wp2
      exact withK_intro ⟨_, rfl, fun j v _ _ _ _ h => phiA_stay (Below.refl _ _) h, HR.out, rfl⟩
    · obtain ⟨v, e28, b0, rfl, ho⟩ := hdep 2 28 (by kernel_rfl) rfl
      obtain ⟨v, e30, rfl⟩ := hdep 4 30 (by kernel_rfl) rfl
      refine op_list (by rfl) ?_
      have hrl : ((List.range (n2 * 6)).map (rowC p.main sf sg sh)).length = n2 * 6 := by simp
      have hrg : ∀ j u, ((List.range (n2 * 6)).map (rowC p.main sf sg sh))[j]? = some u → j < n2 * 6 ∧ u = rowC p.main sf sg sh j := by
        intro j u h
        have hj : j < n2 * 6 := by
          rcases Nat.lt_or_ge j (n2 * 6) with h' | h'
          · exact h'
          · rw [List.getElem?_eq_none (by rw [hrl]; exact h')] at h; cases h
        rw [List.getElem?_map, List.getElem?_range hj] at h
        exact ⟨hj, by simpa using h.symm⟩
      refine wpList_append_any _ rfl _ _ 23 rfl Wc.heap.size 53 iS (.agg #[.int .i64 0, .string ⟨#[]⟩, .int .i64 0, .slice none 0 0, .slice none 0 0, .slice none 0 0]) 6 104 Tryd.underlying23 hi'' hz0' hz1' hz2' rfl (by decide) _ 0 [] (eval_of e28) ho a2 bS oS n2 k2 (eval_of e30) HSR.out.at_ _ hrl
        (fun j u h => by obtain ⟨hj, rfl⟩ := hrg j u h; exact cell_below HR (cell_below HBX (HSR.out.cell j hj)))
        (fun u hu => by obtain ⟨j, hj, rfl⟩ := List.mem_map.1 hu; exact HSR.out.one j (List.mem_range.1 hj)) (by rw [Nat.zero_add]; exact HSR.out.max) (by rw [Nat.zero_add]; exact HBS.out) HR.out.size ?_
      intro v' w2 ho' hg
      rw [Nat.zero_add, List.nil_append] at ho'
      exact withK_intro ⟨_, rfl, fun j v hj hne hk _ h => phiA_grown5 ho hg j v hj hne hk h, below_row HR.out HR.out.size ho hg, ho'⟩
    · have e1 := hout 1 (by decide)
      refine op_list (by rfl) ?_
      go_wp2
      exact withK_intro ⟨_, rfl, fun j v _ _ _ _ h => phiA_stay (Below.refl _ _) h, HR.out, rfl⟩
    · obtain ⟨v, e32, rfl⟩ := hdep 6 32 (by kernel_rfl) rfl
      refine op_list (by rfl) ?_
      go_wp2
      exact withK_intro ⟨_, rfl, fun j v _ _ _ _ h => phiA_stay (Below.refl _ _) h, HR.out, rfl⟩
    · obtain ⟨v, e33, rfl⟩ := hdep 7 33 (by kernel_rfl) rfl
      refine op_list (by rfl) ?_
      go_wp2
      exact withK_intro ⟨_, rfl, fun j v _ _ _ _ h => phiA_stay ((Below.refl _ _).alloc (Nat.le_refl _) _) h, HR.out.alloc HR.out.size _, _, rfl, World.alloc_heap_new _ _⟩
    · obtain ⟨v, e34, be, rfl, hbe⟩ := hdep 8 34 (by kernel_rfl) rfl
      have HBE := Lib.hid hbe
      clear hbe
      refine op_list (by rfl) ?_
      go_wp2
      exact withK_intro ⟨_, rfl, fun j v _ _ _ _ h => phiA_stay (Below.refl _ _) h, HR.out, be, rfl, HBE.out⟩
    · obtain ⟨v, e35, be, rfl, hbe⟩ := hdep 9 35 (by kernel_rfl) rfl
      have HBE := Lib.hid hbe
      clear hbe
      refine op_list (by rfl) ?_
      go_wp2
      exact withK_intro ⟨_, rfl, fun j v _ _ _ _ h => phiA_stay ((Below.refl _ _).alloc (Nat.le_refl _) _) h, HR.out.alloc HR.out.size _, _, be, rfl, World.alloc_heap_new _ _, (Below.heap_alloc _ _ _ (lt_of_heap HBE.out)).trans HBE.out⟩
    · obtain ⟨v5, e31, ho⟩ := hdep 5 31 (by kernel_rfl) rfl
      obtain ⟨v, e36, bs, be, rfl, hbs, hbe⟩ := hdep 10 36 (by kernel_rfl) rfl
      refine op_list (by rfl) ?_
      refine wpList_append_own _ rfl _ _ 23 rfl Wc.heap.size 53 iS (.agg #[.int .i64 0, .string ⟨#[]⟩, .int .i64 0, .slice none 0 0, .slice none 0 0, .slice none 0 0]) 6 104 Tryd.underlying23 hi'' hz0' hz1' hz2' rfl (by decide) v5 n2 _ (eval_of e31) ho ⟨bs, 0, none⟩ 1 1 (stmtC be) (eval_of e36) rfl
        (fun j u h => by rw [addr_add0, Nat.zero_add, cell_of_heap hbs]; simpa using h) (by simp [Value.oneCell', stmtC]) (by have := HBS1.out; unfold maxLen; omega) HBS1.out HR.out.size ?_
      intro v' w2 ho' hg _
      exact withK_intro ⟨_, rfl, fun j v hj hne hk hw h => phiA_grown11 ho hg j v hj hne (fun e => by subst e; exact absurd hw (by decide +kernel)) hk h, below_row HR.out HR.out.size ho hg, be, ho', box_stays ho hg hbe (by decide)⟩
    · obtain ⟨v, e27, rfl⟩ := hdep 1 27 (by kernel_rfl) rfl
      obtain ⟨vm, e37, be, ho, hbe⟩ := hdep 11 37 (by kernel_rfl) rfl
      obtain ⟨ga, gc, rfl⟩ := ownsRow_succ' ho
      have HO := Lib.hid ho
      have HBE := Lib.hid hbe
      clear ho hbe
      refine op_list (by rfl) ?_
      go_wp2
      exact withK_intro ⟨_, rfl, fun j v _ _ _ _ h => phiA_stay (Below.refl _ _) h, HR.out, _, be, rfl, HO.out, HBE.out⟩
    · refine op_list (by rfl) ?_
      go_wp2
      exact withK_intro ⟨_, rfl, fun j v _ _ _ _ h => phiA_stay ((Below.refl _ _).alloc (Nat.le_refl _) _) h, HR.out.alloc HR.out.size _, _, rfl, HR.out.size, World.alloc_heap_new _ _⟩
  case hl6 =>
    intro vs wx hR hφ
    obtain ⟨vm, be, e12, hom, hbe⟩ := hφ 12 (by decide) (by decide)
    obtain ⟨g, e13, hge, hg⟩ := hφ 13 (by decide) (by decide)
    obtain ⟨gb, mc, rfl⟩ := ownsRow_succ' hom
    have HOM := Lib.hid hom
    have HG := Lib.hid (And.intro hge hg)
    have HBE := Lib.hid hbe
    have HR := Lib.hid hR
    have z0 := free_of_heap hg 0
    have z1 := free_of_heap hg 1
    have q0 := cell_of_heap hg 0
    have q1 := cell_of_heap hg 1
    simp only [List.getElem?_toArray, List.getElem?_cons_succ, List.getElem?_cons_zero] at q0 q1
    clear hom hge hg hR hφ hbe
    refine op_list (by rfl) ?_
    simp only [fill, fillA, e12, e13, Nat.reduceAdd]
    generalize vs 0 = x0
    generalize vs 1 = x1
    generalize vs 2 = x2
    generalize vs 3 = x3
    generalize vs 4 = x4
    generalize vs 5 = x5
    generalize vs 6 = x6
    generalize vs 7 = x7
    generalize vs 8 = x8
    generalize vs 9 = x9
    generalize vs 10 = x10
    generalize vs 11 = x11
    clear e12 e13
    go_wp2
    refine withK_intro ?_
    have HW2 : Hid (∀ W : World, W = (wx.setCell ⟨g, 0, none⟩ (.slice a1 n1 k1)).setCell ⟨g, 1, none⟩ (.slice (some ⟨gb, 0, none⟩) (n2 + 1) mc) →
        Below Wc.heap.size Wc W ∧ W.heap[g]? = some (.cells #[.slice a1 n1 k1, .slice (some ⟨gb, 0, none⟩) (n2 + 1) mc] 25 (0, 0)) ∧ W.ownsRow Wc.heap.size 53 6 (.slice (some ⟨gb, 0, none⟩) (n2 + 1) mc) (n2 + 1) ((List.range (n2 * 6)).map (rowC p.main sf sg sh) ++ stmtC be) ∧ W.heap[be]? = some (exprC y)) := by
      rintro W rfl
      have hne : gb ≠ g := by
        rintro rfl
        obtain ⟨_, ⟨h0, _⟩ | ⟨g', cap, cur, e, _, hk, _⟩⟩ := HOM.out
        · cases h0
        · cases e
          rw [HG.out.2] at hk; injection hk with hk; injection hk with _ h2 _; exact absurd h2 (by decide)
      have hnb : be ≠ g := by
        rintro rfl
        have h1 := HBE.out
        rw [HG.out.2] at h1; injection h1 with h1; injection h1 with _ h2 _; exact absurd h2 (by decide)
      refine ⟨(HR.out.setCell (p := ⟨g, 0, none⟩) HG.out.1 _).setCell (p := ⟨g, 1, none⟩) HG.out.1 _, heap_set (heap_set HG.out.2 0 _) 1 _, ?_, ?_⟩
      · exact (HOM.out.kept (grown_set wx g 0 _) (.inr (by simp only [Value.ownBlock]; intro e; cases e; exact hne rfl))).kept (grown_set _ g 1 _) (.inr (by simp only [Value.ownBlock]; intro e; cases e; exact hne rfl))
      · exact own_of_grown (own_of_grown HBE.out (grown_set wx g 0 _) (fun e => by cases e; exact hnb rfl)) (grown_set _ g 1 _) (fun e => by cases e; exact hnb rfl)
    obtain ⟨hB2, hbox, hown, hbe⟩ := HW2.out _ rfl
    generalize (wx.setCell ⟨g, 0, none⟩ (.slice a1 n1 k1)).setCell ⟨g, 1, none⟩ (.slice (some ⟨gb, 0, none⟩) (n2 + 1) mc) = Wq at hB2 hbox hown hbe ⊢
    clear HW2 HR q0 q1 z0 z1 HOM HG HBE
    have hWW : Below w.heap.size w Wq := HBX.out.trans (hB2.mono HBX.out.size)
    have hM : SSl Wq (.slice (some ⟨gb, 0, none⟩) (n2 + 1) mc) (p.main ++ [printS y]) := by
      refine own_more HSR.out hWW (x := .slice (some ⟨be, 0, none⟩) 1 1) (y := .slice none 0 0) (z := .slice none 0 0) ?_ (SSl.nil9 _) (SSl.nil9 _) hown
      exact esl_one (show _ = some (Obj.cells #[.int .i64 1, .int .i64 y, .string ByteArray.empty, .slice none 0 0] 51 (0, 0)) from hbe) (ESl.nil9 _)
    have HBQ : Hid (Below w.heap.size w Wq) := hWW
    have HPQ : Hid (PR Wq (.slice a1 n1 k1) (.slice (some ⟨gb, 0, none⟩) (n2 + 1) mc) (addsP p y)) := ⟨(HP.out.stay hWW).1, hM⟩
    have HVQ := Lib.hid (HV.out.stay hB2)
    have HXCQ := Lib.hid ((hB2.block _ (lt_of_heap HXC.out)).trans HXC.out)
    have z0 : Wq.cell? ⟨g, 0, none⟩ = some (.slice a1 n1 k1) := cell_of_heap hbox 0
    have z1 : Wq.cell? ⟨g, 1, none⟩ = some (.slice (some ⟨gb, 0, none⟩) (n2 + 1) mc) := cell_of_heap hbox 1
    clear hB2 hbox hown hbe hWW hM HXC HV HBX HX2 HSR HBS HBS1 hi'' hz0' hz1' hz2'
    go_wp2_with fail
    refine (compile_r a1 _ n1 (n2 + 1) k1 mc (addsP p y) mb mn _ (HT.out.below HBQ.out).tree (HT.out.below HBQ.out).smp HPQ.out (by have := HN.out; have := adds_nodes_len p y; omega) _ (adds_resolve HR0.out HY.out.1 (by have := HY.out.2; omega))).mono ?_
    rintro e w4 ⟨v, rfl, hb, hv⟩
    rw [if_pos rfl] at hv
    obtain ⟨ua, uc, rfl⟩ := hv.shape
    have hpl : (addsP p y).code.length = m := (adds_code_len p y).trans (p.code_len9.trans HM.out)
    rw [hpl] at hv
    rw [hpl]
    have hbA : Below w4.heap.size w4 (w4.alloc (.cells #[.slice ua m uc] 29)) := (Below.refl _ _).alloc (Nat.le_refl _) _
    have hb3 : Below Wq.heap.size Wq (w4.alloc (.cells #[.slice ua m uc] 29)) := hb.trans (hbA.mono hb.size)
    have HB3 : Hid (Below w.heap.size w (w4.alloc (.cells #[.slice ua m uc] 29))) := HBQ.out.trans (hb3.mono HBQ.out.size)
    have HV3 := Lib.hid (HVQ.out.stay hb3)
    have HU3 := Lib.hid (hv.stay hbA)
    have HXC3 := Lib.hid ((hb3.block _ (lt_of_heap HXCQ.out)).trans HXCQ.out)
    have HXD3 : Hid ((w4.alloc (.cells #[.slice ua m uc] 29)).heap[w4.heap.size]? = some (.cells #[.slice ua m uc] 29 (0, 0))) := heap_alloc_new _ _
    clear hb hv hpl hbA hb3 HXCQ HVQ HBQ HPQ z0 z1
    go_wp2_with fail
    generalize w4.alloc (.cells #[.slice ua m uc] 29) = W3 at HB3 HV3 HU3 HXC3 HXD3 ⊢
    generalize w4.heap.size = dB at HXD3 ⊢
    obtain ⟨-, cb, co, la, lc, rfl, ⟨-, -, -, -, q4⟩, hic⟩ := HV3.out.at9 0 (by omega)
    obtain ⟨-, db, dof, xa, xc, rfl, ⟨-, -, -, -, r4⟩, hid⟩ := HU3.out.at9 0 (by omega)
    rw [PT.code_main] at q4 hic
    rw [PT.code_main, adds_main] at r4 hid
    obtain ⟨hLl, hok⟩ := PT.main_ok HR0.out (show _ ≤ 2000000 by have := HN.out; omega)
    have hrg := okI_rg hok
    generalize p.mainC = L at q4 hic r4 hid hLl hrg
    clear hok
    simp only [Nat.zero_mul, Nat.add_zero] at q4 r4
    obtain ⟨t, ht⟩ : ∃ t, L.length = t := ⟨_, rfl⟩
    obtain ⟨nc, hnc⟩ : ∃ n, t + 2 = n := ⟨_, rfl⟩
    obtain ⟨nd, hnd⟩ : ∃ n, t + 4 = n := ⟨_, rfl⟩
    have hlc : (L ++ [(⟨1, 0, 0⟩ : VI)] ++ [(⟨18, 0, 0⟩ : VI)]).length = nc := by simp; omega
    have hld : (L ++ [(⟨1, 0, y⟩ : VI), ⟨19, 0, 0⟩] ++ [(⟨1, 0, 0⟩ : VI)] ++ [(⟨18, 0, 0⟩ : VI)]).length = nd := by simp; omega
    rw [hlc] at q4 hic
    rw [hld] at r4 hid
    have hci := hic.take t (by omega)
    have hdi := hid.take t (by omega)
    rw [List.append_assoc, ← ht, List.take_left, ht] at hci
    rw [List.append_assoc, List.append_assoc, ← ht, List.take_left, ht] at hdi
    obtain ⟨-, xb, xo, hxa, hcl⟩ := hid.row9
    obtain rfl := hxa (by omega)
    obtain ⟨-, lb, lo, hla, -⟩ := hic.row9
    obtain rfl := hla (by omega)
    have HXa := Lib.hid (hcl t (by omega))
    have HXb := Lib.hid (hcl (t + 1) (by omega))
    have HXd := Lib.hid (hcl (t + 2) (by omega))
    have HXe := Lib.hid (hcl (t + 3) (by omega))
    rw [← ht, add_at0 L y] at HXa
    rw [← ht, add_at1 L y] at HXb
    rw [← ht, add_at2 L y] at HXd
    rw [← ht, add_at3 L y] at HXe
    rw [ht] at HXa HXb HXd HXe
    dsimp only at HXa HXb HXd HXe
    obtain ⟨s, hs⟩ : ∃ s, textB L = s := ⟨_, rfl⟩
    have HTX := Lib.hid (And.intro (show L.length ≤ 5000000 by omega) (And.intro hrg hs))
    have HIC := Lib.hid hci
    have HIX := Lib.hid hdi
    have HC4 := Lib.hid q4
    have HD4 := Lib.hid r4
    have d0 : W3.cell? ⟨cB, 0, none⟩ = some (.slice (some ⟨cb, co, none⟩) m vc) := cell_of_heap HXC3.out 0
    have d1 : W3.cell? ⟨dB, 0, none⟩ = some (.slice (some ⟨db, dof, none⟩) m uc) := cell_of_heap HXD3.out 0
    have hwn : IntKind.i64.wrap ((nc : Int) + 2) = nd := by rw [IntKind.wrap_i64]; omega
    have hwt : IntKind.i64.wrap (t : Int) = t := by rw [IntKind.wrap_i64]; omega
    have hn2 : (nc : Int) - 2 = (t : Int) := by omega
    have hdm : decide ((m : Int) < 1) = false := decide_eq_false (by omega)
    have hdn : decide ((nc : Int) < 2) = false := decide_eq_false (by omega)
    have hm0 : 0 < m := by omega
    have htd : t < nd := by omega
    have htd1 : t + 1 < nd := by omega
    have htd2 : t + 2 < nd := by omega
    have htd3 : t + 3 < nd := by omega
    have htc : t ≤ nc := by omega
    have htdl : t ≤ nd := by omega
    have hnc5 : nc ≤ 4000002 := by omega
    have hnd5 : nd ≤ 4000004 := by omega
    have ht5 : t ≤ 4000000 := by omega
    obtain ⟨lcc, hlcc, hlcm⟩ : nc ≤ lc ∧ lc ≤ 9223372036854775807 ∧ True := by obtain ⟨_, h1, h2⟩ := isl_len hic; exact ⟨h1, h2, trivial⟩
    obtain ⟨xcc, hxcc, -⟩ : nd ≤ xc ∧ xc ≤ 9223372036854775807 ∧ True := by obtain ⟨_, h1, h2⟩ := isl_len hid; exact ⟨h1, h2, trivial⟩
    have htlc : t ≤ lc := by omega
    have htxc : t ≤ xc := by omega
    clear hLl hrg hci hdi hic hid hxa hla hcl hs ht hnc hnd hlc hld hlcm
    go_quiet (fail)
    have HB4 : Hid (Below W3.heap.size W3 (W3.drewN nq)) := below_drewN (Below.refl _ _) _
    go_wp2_with fail
    have HC0 : Hid ((W3.drewN nq).cell? ⟨cB, 0, none⟩ = some (.slice (some ⟨cb, co, none⟩) m vc)) := cell_below HB4 d0
    have HD0 : Hid ((W3.drewN nq).cell? ⟨dB, 0, none⟩ = some (.slice (some ⟨db, dof, none⟩) m uc)) := cell_below HB4 d1
    have HC44 : Hid ((W3.drewN nq).cell? ⟨cb, co + 4, none⟩ = some (.slice (some ⟨lb, lo, none⟩) nc lc)) := cell_below HB4 HC4.out
    have HXA := Lib.hid (And.intro (cell_below HB4 HXa.out.1) (And.intro (cell_below HB4 HXa.out.2.1) (cell_below HB4 HXa.out.2.2)))
    have HXB := Lib.hid (And.intro (cell_below HB4 HXb.out.1) (And.intro (cell_below HB4 HXb.out.2.1) (cell_below HB4 HXb.out.2.2)))
    have HXD := Lib.hid (And.intro (cell_below HB4 HXd.out.1) (And.intro (cell_below HB4 HXd.out.2.1) (cell_below HB4 HXd.out.2.2)))
    have HXE := Lib.hid (And.intro (cell_below HB4 HXe.out.1) (And.intro (cell_below HB4 HXe.out.2.1) (cell_below HB4 HXe.out.2.2)))
    have HICa := Lib.hid (HIC.out.stay HB4.out)
    have HIXa := Lib.hid (HIX.out.stay HB4.out)
    have HTC : Hid (TabAll (W3.drewN nq) mb mn) := HT.out.below (HB3.out.trans (HB4.out.mono HB3.out.size))
    clear q4 r4 d0 d1 HC4 HD4 HXa HXb HXd HXe HIC HIX
    generalize W3.drewN nq = W4 at HB4 HC0 HD0 HC44 HXA HXB HXD HXE HICa HIXa HTC ⊢
    refine region_flow rfl 49 rfl (by decide +kernel) [98, 99, 100, 101, 102, 103, 104, 105, 106, 107, 108, 109, 110, 111, 112, 113, 114, 115, 116, 117, 118, 119, 120, 121, 122, 123, 124, 125, 126, 127, 128, 129, 130, 131, 132, 133, 134, 135, 136, 137, 138, 139, 140, 141, 142, 143, 144, 145, 146] (by decide +kernel) rfl (by decide) (by simp) (fun w w' => Below w.heap.size w w') (fun w => Below W4.heap.size W4 w)
      (fun j v _ => v = ([.slice (some ⟨xb, xo, none⟩) nd xc, .int .i64 (t : Int), .slice (some ⟨xb, xo, none⟩) t xc, .string s, .pointer (some ⟨cB, 0, none⟩), .slice (some ⟨cb, co, none⟩) m vc, .pointer (some ⟨cb, co, none⟩), .pointer (some ⟨cb, co + 4, none⟩), .slice (some ⟨lb, lo, none⟩) nc lc, .int .i64 (t : Int), .slice (some ⟨lb, lo, none⟩) t lc, .string s, .bool true, .bool true, .slice (some ⟨xb, xo, none⟩) nd xc, .int .i64 (t : Int), .pointer (some ⟨xb, xo + t * 3, none⟩), .agg #[.int .i64 1, .int .i64 0, .int .i64 y], .int .i64 y, .agg #[.int .i64 1, .int .i64 0, .int .i64 y], .bool true, .bool true, .bool true, .slice (some ⟨xb, xo, none⟩) nd xc, .int .i64 (t : Int), .int .i64 ((t : Int) + 1), .pointer (some ⟨xb, xo + (t + 1) * 3, none⟩), .agg #[.int .i64 19, .int .i64 0, .int .i64 0], .agg #[.int .i64 19, .int .i64 0, .int .i64 0], .bool true, .bool true, .bool true, .slice (some ⟨xb, xo, none⟩) nd xc, .int .i64 (t : Int), .int .i64 ((t : Int) + 2), .pointer (some ⟨xb, xo + (t + 2) * 3, none⟩), .agg #[.int .i64 1, .int .i64 0, .int .i64 0], .agg #[.int .i64 1, .int .i64 0, .int .i64 0], .bool true, .bool true, .bool true, .slice (some ⟨xb, xo, none⟩) nd xc, .int .i64 (t : Int), .int .i64 ((t : Int) + 3), .pointer (some ⟨xb, xo + (t + 3) * 3, none⟩), .agg #[.int .i64 18, .int .i64 0, .int .i64 0], .agg #[.int .i64 18, .int .i64 0, .int .i64 0], .bool true, .bool true] : List Value).getD j undef) (fun _ _ _ _ _ h => h) ?hr12 ?hs12 ?hl12
    case hs12 =>
      intro ix hix a wx hR hout hdep
      have hix' : ix = 0 ∨ ix = 1 ∨ ix = 2 ∨ ix = 3 ∨ ix = 4 ∨ ix = 5 ∨ ix = 6 ∨ ix = 7 ∨ ix = 8 ∨ ix = 9 ∨ ix = 10 ∨ ix = 11 ∨ ix = 12 ∨ ix = 13 ∨ ix = 14 ∨ ix = 15 ∨ ix = 16 ∨ ix = 17 ∨ ix = 18 ∨ ix = 19 ∨ ix = 20 ∨ ix = 21 ∨ ix = 22 ∨ ix = 23 ∨ ix = 24 ∨ ix = 25 ∨ ix = 26 ∨ ix = 27 ∨ ix = 28 ∨ ix = 29 ∨ ix = 30 ∨ ix = 31 ∨ ix = 32 ∨ ix = 33 ∨ ix = 34 ∨ ix = 35 ∨ ix = 36 ∨ ix = 37 ∨ ix = 38 ∨ ix = 39 ∨ ix = 40 ∨ ix = 41 ∨ ix = 42 ∨ ix = 43 ∨ ix = 44 ∨ ix = 45 ∨ ix = 46 ∨ ix = 47 ∨ ix = 48 := by omega
      rcases hix' with rfl | rfl | rfl | rfl | rfl | rfl | rfl | rfl | rfl | rfl | rfl | rfl | rfl | rfl | rfl | rfl | rfl | rfl | rfl | rfl | rfl | rfl | rfl | rfl | rfl | rfl | rfl | rfl | rfl | rfl | rfl | rfl | rfl | rfl | rfl | rfl | rfl | rfl | rfl | rfl | rfl | rfl | rfl | rfl | rfl | rfl | rfl | rfl | rfl
      · have HR := Lib.hid hR
        clear hR
        have e12 := hout 12 (by decide)
        clear hout hdep
        refine op_list (by rfl) ?_
        go_wp2
        exact withK_intro ⟨_, rfl, Below.refl _ _, HR.out, rfl⟩
      · have HR := Lib.hid hR
        clear hR
        have e11 := hout 11 (by decide)
        clear hout hdep
        refine op_list (by rfl) ?_
        go_wp2
        exact withK_intro ⟨_, rfl, Below.refl _ _, HR.out, rfl⟩
      · have HR := Lib.hid hR
        clear hR
        have e98 : a.tmps[98]? = some (.slice (some ⟨xb, xo, none⟩) nd xc) := flow_dep hdep 0 98 (by kernel_rfl) rfl
        have e99 : a.tmps[99]? = some (.int .i64 (t : Int)) := flow_dep hdep 1 99 (by kernel_rfl) rfl
        clear hout hdep
        refine op_list (by rfl) ?_
        go_wp2
        exact withK_intro ⟨_, rfl, Below.refl _ _, HR.out, rfl⟩
      · have HR := Lib.hid hR
        clear hR
        have e100 : a.tmps[100]? = some (.slice (some ⟨xb, xo, none⟩) t xc) := flow_dep hdep 2 100 (by kernel_rfl) rfl
        clear hout hdep
        refine op_list (by rfl) ?_
        go_wp2_with (go_at_call 9; refine (text_v _ _ _ L HTX.out.1 HTX.out.2.1 _ HTX.out.2.2 _ (HIXa.out.stay HR.out) (HTC.out.below HR.out).code).mono ?_; rintro e w' ⟨rfl, hb⟩; have HBc := Lib.hid hb; clear hb)
        exact withK_intro ⟨_, rfl, HBc.out, HR.out.trans (HBc.out.mono HR.out.size), rfl⟩
      · have HR := Lib.hid hR
        clear hR
        have e6 := hout 6 (by decide)
        clear hout hdep
        refine op_list (by rfl) ?_
        go_wp2
        exact withK_intro ⟨_, rfl, Below.refl _ _, HR.out, rfl⟩
      · have HR := Lib.hid hR
        clear hR
        have e102 : a.tmps[102]? = some (.pointer (some ⟨cB, 0, none⟩)) := flow_dep hdep 4 102 (by kernel_rfl) rfl
        have z0 := cell_below HR HC0.out
        have z0 := cell_below HR HC0.out
        clear hout hdep
        refine op_list (by rfl) ?_
        go_wp2
        exact withK_intro ⟨_, rfl, Below.refl _ _, HR.out, rfl⟩
      · have HR := Lib.hid hR
        clear hR
        have e103 : a.tmps[103]? = some (.slice (some ⟨cb, co, none⟩) m vc) := flow_dep hdep 5 103 (by kernel_rfl) rfl
        clear hout hdep
        refine op_list (by rfl) ?_
        go_wp2
        exact withK_intro ⟨_, rfl, Below.refl _ _, HR.out, rfl⟩
      · have HR := Lib.hid hR
        clear hR
        have e104 : a.tmps[104]? = some (.pointer (some ⟨cb, co, none⟩)) := flow_dep hdep 6 104 (by kernel_rfl) rfl
        clear hout hdep
        refine op_list (by rfl) ?_
        go_wp2
        exact withK_intro ⟨_, rfl, Below.refl _ _, HR.out, rfl⟩
      · have HR := Lib.hid hR
        clear hR
        have e105 : a.tmps[105]? = some (.pointer (some ⟨cb, co + 4, none⟩)) := flow_dep hdep 7 105 (by kernel_rfl) rfl
        have z0 := cell_below HR HC44.out
        clear hout hdep
        refine op_list (by rfl) ?_
        go_wp2
        exact withK_intro ⟨_, rfl, Below.refl _ _, HR.out, rfl⟩
      · have HR := Lib.hid hR
        clear hR
        have e11 := hout 11 (by decide)
        clear hout hdep
        refine op_list (by rfl) ?_
        go_wp2
        exact withK_intro ⟨_, rfl, Below.refl _ _, HR.out, rfl⟩
      · have HR := Lib.hid hR
        clear hR
        have e106 : a.tmps[106]? = some (.slice (some ⟨lb, lo, none⟩) nc lc) := flow_dep hdep 8 106 (by kernel_rfl) rfl
        have e107 : a.tmps[107]? = some (.int .i64 (t : Int)) := flow_dep hdep 9 107 (by kernel_rfl) rfl
        clear hout hdep
        refine op_list (by rfl) ?_
        go_wp2
        exact withK_intro ⟨_, rfl, Below.refl _ _, HR.out, rfl⟩
      · have HR := Lib.hid hR
        clear hR
        have e108 : a.tmps[108]? = some (.slice (some ⟨lb, lo, none⟩) t lc) := flow_dep hdep 10 108 (by kernel_rfl) rfl
        clear hout hdep
        refine op_list (by rfl) ?_
        go_wp2_with (go_at_call 9; refine (text_v _ _ _ L HTX.out.1 HTX.out.2.1 _ HTX.out.2.2 _ (HICa.out.stay HR.out) (HTC.out.below HR.out).code).mono ?_; rintro e w' ⟨rfl, hb⟩; have HBc := Lib.hid hb; clear hb)
        exact withK_intro ⟨_, rfl, HBc.out, HR.out.trans (HBc.out.mono HR.out.size), rfl⟩
      · have HR := Lib.hid hR
        clear hR
        have e101 : a.tmps[101]? = some (.string s) := flow_dep hdep 3 101 (by kernel_rfl) rfl
        have e109 : a.tmps[109]? = some (.string s) := flow_dep hdep 11 109 (by kernel_rfl) rfl
        clear hout hdep
        refine op_list (by rfl) ?_
        go_wp2
        exact withK_intro ⟨_, rfl, Below.refl _ _, HR.out, rfl⟩
      · have HR := Lib.hid hR
        clear hR
        have e110 : a.tmps[110]? = some (.bool true) := flow_dep hdep 12 110 (by kernel_rfl) rfl
        clear hout hdep
        refine op_list (by rfl) ?_
        go_wp2
        exact withK_intro ⟨_, rfl, Below.refl _ _, HR.out, rfl⟩
      · have HR := Lib.hid hR
        clear hR
        have e12 := hout 12 (by decide)
        have e111 : a.tmps[111]? = some (.bool true) := flow_dep hdep 13 111 (by kernel_rfl) rfl
        clear hout hdep
        refine op_list (by rfl) ?_
        go_wp2
        exact withK_intro ⟨_, rfl, Below.refl _ _, HR.out, rfl⟩
      · have HR := Lib.hid hR
        clear hR
        have e11 := hout 11 (by decide)
        have e111 : a.tmps[111]? = some (.bool true) := flow_dep hdep 13 111 (by kernel_rfl) rfl
        clear hout hdep
        refine op_list (by rfl) ?_
        go_wp2
        exact withK_intro ⟨_, rfl, Below.refl _ _, HR.out, rfl⟩
      · have HR := Lib.hid hR
        clear hR
        have e112 : a.tmps[112]? = some (.slice (some ⟨xb, xo, none⟩) nd xc) := flow_dep hdep 14 112 (by kernel_rfl) rfl
        have e113 : a.tmps[113]? = some (.int .i64 (t : Int)) := flow_dep hdep 15 113 (by kernel_rfl) rfl
        have e111 : a.tmps[111]? = some (.bool true) := flow_dep hdep 13 111 (by kernel_rfl) rfl
        clear hout hdep
        refine op_list (by rfl) ?_
        go_wp2
        exact withK_intro ⟨_, rfl, Below.refl _ _, HR.out, rfl⟩
      · have HR := Lib.hid hR
        clear hR
        have e114 : a.tmps[114]? = some (.pointer (some ⟨xb, xo + t * 3, none⟩)) := flow_dep hdep 16 114 (by kernel_rfl) rfl
        have e111 : a.tmps[111]? = some (.bool true) := flow_dep hdep 13 111 (by kernel_rfl) rfl
        have z0 := cell_below HR HXA.out.1
        have z1 := cell_below HR HXA.out.2.1
        have z2 := cell_below HR HXA.out.2.2
        clear hout hdep
        refine op_list (by rfl) ?_
        go_wp2
        exact withK_intro ⟨_, rfl, Below.refl _ _, HR.out, rfl⟩
      · have HR := Lib.hid hR
        clear hR
        have e1 := hout 1 (by decide)
        have e111 : a.tmps[111]? = some (.bool true) := flow_dep hdep 13 111 (by kernel_rfl) rfl
        clear hout hdep
        refine op_list (by rfl) ?_
        go_wp2
        exact withK_intro ⟨_, rfl, Below.refl _ _, HR.out, rfl⟩
      · have HR := Lib.hid hR
        clear hR
        have e116 : a.tmps[116]? = some (.int .i64 y) := flow_dep hdep 18 116 (by kernel_rfl) rfl
        have e111 : a.tmps[111]? = some (.bool true) := flow_dep hdep 13 111 (by kernel_rfl) rfl
        clear hout hdep
        refine op_list (by rfl) ?_
        go_wp2
        exact withK_intro ⟨_, rfl, Below.refl _ _, HR.out, rfl⟩
      · have HR := Lib.hid hR
        clear hR
        have e115 : a.tmps[115]? = some (.agg #[.int .i64 1, .int .i64 0, .int .i64 y]) := flow_dep hdep 17 115 (by kernel_rfl) rfl
        have e117 : a.tmps[117]? = some (.agg #[.int .i64 1, .int .i64 0, .int .i64 y]) := flow_dep hdep 19 117 (by kernel_rfl) rfl
        have e111 : a.tmps[111]? = some (.bool true) := flow_dep hdep 13 111 (by kernel_rfl) rfl
        clear hout hdep
        refine op_list (by rfl) ?_
        go_wp2
        exact withK_intro ⟨_, rfl, Below.refl _ _, HR.out, rfl⟩
      · have HR := Lib.hid hR
        clear hR
        have e111 : a.tmps[111]? = some (.bool true) := flow_dep hdep 13 111 (by kernel_rfl) rfl
        have e118 : a.tmps[118]? = some (.bool true) := flow_dep hdep 20 118 (by kernel_rfl) rfl
        clear hout hdep
        refine op_list (by rfl) ?_
        go_wp2
        exact withK_intro ⟨_, rfl, Below.refl _ _, HR.out, rfl⟩
      · have HR := Lib.hid hR
        clear hR
        have e119 : a.tmps[119]? = some (.bool true) := flow_dep hdep 21 119 (by kernel_rfl) rfl
        clear hout hdep
        refine op_list (by rfl) ?_
        go_wp2
        exact withK_intro ⟨_, rfl, Below.refl _ _, HR.out, rfl⟩
      · have HR := Lib.hid hR
        clear hR
        have e12 := hout 12 (by decide)
        have e120 : a.tmps[120]? = some (.bool true) := flow_dep hdep 22 120 (by kernel_rfl) rfl
        clear hout hdep
        refine op_list (by rfl) ?_
        go_wp2
        exact withK_intro ⟨_, rfl, Below.refl _ _, HR.out, rfl⟩
      · have HR := Lib.hid hR
        clear hR
        have e11 := hout 11 (by decide)
        have e120 : a.tmps[120]? = some (.bool true) := flow_dep hdep 22 120 (by kernel_rfl) rfl
        clear hout hdep
        refine op_list (by rfl) ?_
        go_wp2
        exact withK_intro ⟨_, rfl, Below.refl _ _, HR.out, rfl⟩
      · have HR := Lib.hid hR
        clear hR
        have e122 : a.tmps[122]? = some (.int .i64 (t : Int)) := flow_dep hdep 24 122 (by kernel_rfl) rfl
        have e120 : a.tmps[120]? = some (.bool true) := flow_dep hdep 22 120 (by kernel_rfl) rfl
        clear hout hdep
        refine op_list (by rfl) ?_
        go_wp2
        exact withK_intro ⟨_, rfl, Below.refl _ _, HR.out, rfl⟩
      · have HR := Lib.hid hR
        clear hR
        have e121 : a.tmps[121]? = some (.slice (some ⟨xb, xo, none⟩) nd xc) := flow_dep hdep 23 121 (by kernel_rfl) rfl
        have e123 : a.tmps[123]? = some (.int .i64 ((t : Int) + 1)) := flow_dep hdep 25 123 (by kernel_rfl) rfl
        have e120 : a.tmps[120]? = some (.bool true) := flow_dep hdep 22 120 (by kernel_rfl) rfl
        clear hout hdep
        refine op_list (by rfl) ?_
        go_wp2
        exact withK_intro ⟨_, rfl, Below.refl _ _, HR.out, rfl⟩
      · have HR := Lib.hid hR
        clear hR
        have e124 : a.tmps[124]? = some (.pointer (some ⟨xb, xo + (t + 1) * 3, none⟩)) := flow_dep hdep 26 124 (by kernel_rfl) rfl
        have e120 : a.tmps[120]? = some (.bool true) := flow_dep hdep 22 120 (by kernel_rfl) rfl
        have z0 := cell_below HR HXB.out.1
        have z1 := cell_below HR HXB.out.2.1
        have z2 := cell_below HR HXB.out.2.2
        clear hout hdep
        refine op_list (by rfl) ?_
        go_wp2
        exact withK_intro ⟨_, rfl, Below.refl _ _, HR.out, rfl⟩
      · have HR := Lib.hid hR
        clear hR
        have e120 : a.tmps[120]? = some (.bool true) := flow_dep hdep 22 120 (by kernel_rfl) rfl
        clear hout hdep
        refine op_list (by rfl) ?_
        go_wp2
        exact withK_intro ⟨_, rfl, Below.refl _ _, HR.out, rfl⟩
      · have HR := Lib.hid hR
        clear hR
        have e125 : a.tmps[125]? = some (.agg #[.int .i64 19, .int .i64 0, .int .i64 0]) := flow_dep hdep 27 125 (by kernel_rfl) rfl
        have e126 : a.tmps[126]? = some (.agg #[.int .i64 19, .int .i64 0, .int .i64 0]) := flow_dep hdep 28 126 (by kernel_rfl) rfl
        have e120 : a.tmps[120]? = some (.bool true) := flow_dep hdep 22 120 (by kernel_rfl) rfl
        clear hout hdep
        refine op_list (by rfl) ?_
        go_wp2
        exact withK_intro ⟨_, rfl, Below.refl _ _, HR.out, rfl⟩
      · have HR := Lib.hid hR
        clear hR
        have e120 : a.tmps[120]? = some (.bool true) := flow_dep hdep 22 120 (by kernel_rfl) rfl
        have e127 : a.tmps[127]? = some (.bool true) := flow_dep hdep 29 127 (by kernel_rfl) rfl
        clear hout hdep
        refine op_list (by rfl) ?_
        go_wp2
        exact withK_intro ⟨_, rfl, Below.refl _ _, HR.out, rfl⟩
      · have HR := Lib.hid hR
        clear hR
        have e128 : a.tmps[128]? = some (.bool true) := flow_dep hdep 30 128 (by kernel_rfl) rfl
        clear hout hdep
        refine op_list (by rfl) ?_
        go_wp2
        exact withK_intro ⟨_, rfl, Below.refl _ _, HR.out, rfl⟩
      · have HR := Lib.hid hR
        clear hR
        have e12 := hout 12 (by decide)
        have e129 : a.tmps[129]? = some (.bool true) := flow_dep hdep 31 129 (by kernel_rfl) rfl
        clear hout hdep
        refine op_list (by rfl) ?_
        go_wp2
        exact withK_intro ⟨_, rfl, Below.refl _ _, HR.out, rfl⟩
      · have HR := Lib.hid hR
        clear hR
        have e11 := hout 11 (by decide)
        have e129 : a.tmps[129]? = some (.bool true) := flow_dep hdep 31 129 (by kernel_rfl) rfl
        clear hout hdep
        refine op_list (by rfl) ?_
        go_wp2
        exact withK_intro ⟨_, rfl, Below.refl _ _, HR.out, rfl⟩
      · have HR := Lib.hid hR
        clear hR
        have e131 : a.tmps[131]? = some (.int .i64 (t : Int)) := flow_dep hdep 33 131 (by kernel_rfl) rfl
        have e129 : a.tmps[129]? = some (.bool true) := flow_dep hdep 31 129 (by kernel_rfl) rfl
        clear hout hdep
        refine op_list (by rfl) ?_
        go_wp2
        exact withK_intro ⟨_, rfl, Below.refl _ _, HR.out, rfl⟩
      · have HR := Lib.hid hR
        clear hR
        have e130 : a.tmps[130]? = some (.slice (some ⟨xb, xo, none⟩) nd xc) := flow_dep hdep 32 130 (by kernel_rfl) rfl
        have e132 : a.tmps[132]? = some (.int .i64 ((t : Int) + 2)) := flow_dep hdep 34 132 (by kernel_rfl) rfl
        have e129 : a.tmps[129]? = some (.bool true) := flow_dep hdep 31 129 (by kernel_rfl) rfl
        clear hout hdep
        refine op_list (by rfl) ?_
        go_wp2
        exact withK_intro ⟨_, rfl, Below.refl _ _, HR.out, rfl⟩
      · have HR := Lib.hid hR
        clear hR
        have e133 : a.tmps[133]? = some (.pointer (some ⟨xb, xo + (t + 2) * 3, none⟩)) := flow_dep hdep 35 133 (by kernel_rfl) rfl
        have e129 : a.tmps[129]? = some (.bool true) := flow_dep hdep 31 129 (by kernel_rfl) rfl
        have z0 := cell_below HR HXD.out.1
        have z1 := cell_below HR HXD.out.2.1
        have z2 := cell_below HR HXD.out.2.2
        clear hout hdep
        refine op_list (by rfl) ?_
        go_wp2
        exact withK_intro ⟨_, rfl, Below.refl _ _, HR.out, rfl⟩
      · have HR := Lib.hid hR
        clear hR
        have e129 : a.tmps[129]? = some (.bool true) := flow_dep hdep 31 129 (by kernel_rfl) rfl
        clear hout hdep
        refine op_list (by rfl) ?_
        go_wp2
        exact withK_intro ⟨_, rfl, Below.refl _ _, HR.out, rfl⟩
      · have HR := Lib.hid hR
        clear hR
        have e134 : a.tmps[134]? = some (.agg #[.int .i64 1, .int .i64 0, .int .i64 0]) := flow_dep hdep 36 134 (by kernel_rfl) rfl
        have e135 : a.tmps[135]? = some (.agg #[.int .i64 1, .int .i64 0, .int .i64 0]) := flow_dep hdep 37 135 (by kernel_rfl) rfl
        have e129 : a.tmps[129]? = some (.bool true) := flow_dep hdep 31 129 (by kernel_rfl) rfl
        clear hout hdep
        refine op_list (by rfl) ?_
        go_wp2
        exact withK_intro ⟨_, rfl, Below.refl _ _, HR.out, rfl⟩
      · have HR := Lib.hid hR
        clear hR
        have e129 : a.tmps[129]? = some (.bool true) := flow_dep hdep 31 129 (by kernel_rfl) rfl
        have e136 : a.tmps[136]? = some (.bool true) := flow_dep hdep 38 136 (by kernel_rfl) rfl
        clear hout hdep
        refine op_list (by rfl) ?_
        go_wp2
        exact withK_intro ⟨_, rfl, Below.refl _ _, HR.out, rfl⟩
      · have HR := Lib.hid hR
        clear hR
        have e137 : a.tmps[137]? = some (.bool true) := flow_dep hdep 39 137 (by kernel_rfl) rfl
        clear hout hdep
        refine op_list (by rfl) ?_
        go_wp2
        exact withK_intro ⟨_, rfl, Below.refl _ _, HR.out, rfl⟩
      · have HR := Lib.hid hR
        clear hR
        have e12 := hout 12 (by decide)
        have e138 : a.tmps[138]? = some (.bool true) := flow_dep hdep 40 138 (by kernel_rfl) rfl
        clear hout hdep
        refine op_list (by rfl) ?_
        go_wp2
        exact withK_intro ⟨_, rfl, Below.refl _ _, HR.out, rfl⟩
      · have HR := Lib.hid hR
        clear hR
        have e11 := hout 11 (by decide)
        have e138 : a.tmps[138]? = some (.bool true) := flow_dep hdep 40 138 (by kernel_rfl) rfl
        clear hout hdep
        refine op_list (by rfl) ?_
        go_wp2
        exact withK_intro ⟨_, rfl, Below.refl _ _, HR.out, rfl⟩
      · have HR := Lib.hid hR
        clear hR
        have e140 : a.tmps[140]? = some (.int .i64 (t : Int)) := flow_dep hdep 42 140 (by kernel_rfl) rfl
        have e138 : a.tmps[138]? = some (.bool true) := flow_dep hdep 40 138 (by kernel_rfl) rfl
        clear hout hdep
        refine op_list (by rfl) ?_
        go_wp2
        exact withK_intro ⟨_, rfl, Below.refl _ _, HR.out, rfl⟩
      · have HR := Lib.hid hR
        clear hR
        have e139 : a.tmps[139]? = some (.slice (some ⟨xb, xo, none⟩) nd xc) := flow_dep hdep 41 139 (by kernel_rfl) rfl
        have e141 : a.tmps[141]? = some (.int .i64 ((t : Int) + 3)) := flow_dep hdep 43 141 (by kernel_rfl) rfl
        have e138 : a.tmps[138]? = some (.bool true) := flow_dep hdep 40 138 (by kernel_rfl) rfl
        clear hout hdep
        refine op_list (by rfl) ?_
        go_wp2
        exact withK_intro ⟨_, rfl, Below.refl _ _, HR.out, rfl⟩
      · have HR := Lib.hid hR
        clear hR
        have e142 : a.tmps[142]? = some (.pointer (some ⟨xb, xo + (t + 3) * 3, none⟩)) := flow_dep hdep 44 142 (by kernel_rfl) rfl
        have e138 : a.tmps[138]? = some (.bool true) := flow_dep hdep 40 138 (by kernel_rfl) rfl
        have z0 := cell_below HR HXE.out.1
        have z1 := cell_below HR HXE.out.2.1
        have z2 := cell_below HR HXE.out.2.2
        clear hout hdep
        refine op_list (by rfl) ?_
        go_wp2
        exact withK_intro ⟨_, rfl, Below.refl _ _, HR.out, rfl⟩
      · have HR := Lib.hid hR
        clear hR
        have e138 : a.tmps[138]? = some (.bool true) := flow_dep hdep 40 138 (by kernel_rfl) rfl
        clear hout hdep
        refine op_list (by rfl) ?_
        go_wp2
        exact withK_intro ⟨_, rfl, Below.refl _ _, HR.out, rfl⟩
      · have HR := Lib.hid hR
        clear hR
        have e143 : a.tmps[143]? = some (.agg #[.int .i64 18, .int .i64 0, .int .i64 0]) := flow_dep hdep 45 143 (by kernel_rfl) rfl
        have e144 : a.tmps[144]? = some (.agg #[.int .i64 18, .int .i64 0, .int .i64 0]) := flow_dep hdep 46 144 (by kernel_rfl) rfl
        have e138 : a.tmps[138]? = some (.bool true) := flow_dep hdep 40 138 (by kernel_rfl) rfl
        clear hout hdep
        refine op_list (by rfl) ?_
        go_wp2
        exact withK_intro ⟨_, rfl, Below.refl _ _, HR.out, rfl⟩
      · have HR := Lib.hid hR
        clear hR
        have e138 : a.tmps[138]? = some (.bool true) := flow_dep hdep 40 138 (by kernel_rfl) rfl
        have e145 : a.tmps[145]? = some (.bool true) := flow_dep hdep 47 145 (by kernel_rfl) rfl
        clear hout hdep
        refine op_list (by rfl) ?_
        go_wp2
        exact withK_intro ⟨_, rfl, Below.refl _ _, HR.out, rfl⟩
    case hl12 =>
      intro vs wx hR hφ
      have HR := Lib.hid hR
      clear hR
      rw [fill_congr _ [98, 99, 100, 101, 102, 103, 104, 105, 106, 107, 108, 109, 110, 111, 112, 113, 114, 115, 116, 117, 118, 119, 120, 121, 122, 123, 124, 125, 126, 127, 128, 129, 130, 131, 132, 133, 134, 135, 136, 137, 138, 139, 140, 141, 142, 143, 144, 145, 146] vs (fun j => ([.slice (some ⟨xb, xo, none⟩) nd xc, .int .i64 (t : Int), .slice (some ⟨xb, xo, none⟩) t xc, .string s, .pointer (some ⟨cB, 0, none⟩), .slice (some ⟨cb, co, none⟩) m vc, .pointer (some ⟨cb, co, none⟩), .pointer (some ⟨cb, co + 4, none⟩), .slice (some ⟨lb, lo, none⟩) nc lc, .int .i64 (t : Int), .slice (some ⟨lb, lo, none⟩) t lc, .string s, .bool true, .bool true, .slice (some ⟨xb, xo, none⟩) nd xc, .int .i64 (t : Int), .pointer (some ⟨xb, xo + t * 3, none⟩), .agg #[.int .i64 1, .int .i64 0, .int .i64 y], .int .i64 y, .agg #[.int .i64 1, .int .i64 0, .int .i64 y], .bool true, .bool true, .bool true, .slice (some ⟨xb, xo, none⟩) nd xc, .int .i64 (t : Int), .int .i64 ((t : Int) + 1), .pointer (some ⟨xb, xo + (t + 1) * 3, none⟩), .agg #[.int .i64 19, .int .i64 0, .int .i64 0], .agg #[.int .i64 19, .int .i64 0, .int .i64 0], .bool true, .bool true, .bool true, .slice (some ⟨xb, xo, none⟩) nd xc, .int .i64 (t : Int), .int .i64 ((t : Int) + 2), .pointer (some ⟨xb, xo + (t + 2) * 3, none⟩), .agg #[.int .i64 1, .int .i64 0, .int .i64 0], .agg #[.int .i64 1, .int .i64 0, .int .i64 0], .bool true, .bool true, .bool true, .slice (some ⟨xb, xo, none⟩) nd xc, .int .i64 (t : Int), .int .i64 ((t : Int) + 3), .pointer (some ⟨xb, xo + (t + 3) * 3, none⟩), .agg #[.int .i64 18, .int .i64 0, .int .i64 0], .agg #[.int .i64 18, .int .i64 0, .int .i64 0], .bool true, .bool true] : List Value).getD j undef) (fun j hj => hφ j hj)]
      clear hφ vs
      refine op_list (by rfl) ?_
      simp only [fill, fillA, List.getD_cons_zero, List.getD_cons_succ, Nat.reduceAdd]
      have HB5 : Hid (Below W3.heap.size W3 wx) := HB4.out.trans (HR.out.mono HB4.out.size)
      have HV5 := Lib.hid (HV3.out.stay HB5.out)
      have HU5 := Lib.hid (HU3.out.stay HB5.out)
      have HXC5 := Lib.hid ((HB5.out.block _ (lt_of_heap HXC3.out)).trans HXC3.out)
      have HXD5 := Lib.hid ((HB5.out.block _ (lt_of_heap HXD3.out)).trans HXD3.out)
      have HBW : Hid (Below w.heap.size w wx) := HB3.out.trans (HB5.out.mono HB3.out.size)
      have HT5 : Hid (TabAll wx mb mn) := HT.out.below HBW.out
      clear HTX HC0 HD0 HC44 HXA HXB HXD HXE HICa HIXa HTC HV3 HU3 HXC3 HXD3 hwn hwt hn2 hdn htd htd1 htd2 htd3 htc htdl
      simp only [List.setIfInBounds_toArray, List.set_cons_succ, List.set_cons_zero]
      go_wp2_with fail
      refine withK_intro ?_
      obtain ⟨w5, rfl⟩ : ∃ z, z = wx := ⟨_, rfl⟩
      have e0 : w5.cell? ⟨cB, 0, none⟩ = some (.slice (some ⟨cb, co, none⟩) m vc) := cell_of_heap HXC5.out 0
      go_wp2_with fail
      go_loopw [13, 14] (fun sv i wr => sv = .bool true ∧ ∃ k : Nat, i = .int .i64 k ∧ 1 ≤ k ∧ k ≤ m ∧ Hid (Below w5.heap.size w5 wr)) (fun _ i _ => m - (intOf i).toNat)
      case atStart => exact ⟨rfl, 1, rfl, Nat.le_refl _, hm1, Below.refl _ _⟩
      case round =>
        clear e0
        obtain ⟨rfl, k, rfl, hk1, hk, HBk⟩ := hrel
        obtain ⟨wo, rfl⟩ : ∃ z, z = wr := ⟨_, rfl⟩
        have HXCk := Lib.hid ((HBk.out.block _ (lt_of_heap HXC5.out)).trans HXC5.out)
        have d0 : wo.cell? ⟨cB, 0, none⟩ = some (.slice (some ⟨cb, co, none⟩) m vc) := cell_of_heap HXCk.out 0
        by_cases hlt : k < m
        · obtain ⟨-, cb', co', la, la', hce, ⟨-, -, -, -, q4⟩, hic⟩ := (HV5.out.stay HBk.out).at9 k hlt
          obtain ⟨-, db', do', xa, xa', hde, ⟨-, -, -, -, r4⟩, hid⟩ := (HU5.out.stay HBk.out).at9 k hlt
          cases hce
          cases hde
          have hka : k < p.all.length := by rw [HM.out]; exact hlt
          rw [adds_code p y k (by omega) (by rw [p.code_len9]; exact hka)] at r4 hid
          obtain ⟨mo, hok, hl5⟩ := PT.code_rg HR0.out (show _ ≤ 2000000 by have := HN.out; omega) k hka
          generalize (p.code.getD k default).l = l9 at q4 hic r4 hid hok hl5
          obtain ⟨s9, hs9⟩ : ∃ s, textB l9 = s := ⟨_, rfl⟩
          have HTX := Lib.hid (And.intro hl5 (And.intro (okI_rg hok) hs9))
          have HC0 := Lib.hid d0
          have HD0 : Hid (wo.cell? ⟨dB, 0, none⟩ = some (.slice (some ⟨db, dof, none⟩) m uc)) := cell_of_heap ((HBk.out.block _ (lt_of_heap HXD5.out)).trans HXD5.out) 0
          have HC4 := Lib.hid q4
          have HD4 := Lib.hid r4
          have HIC := Lib.hid hic
          have HID := Lib.hid hid
          have HTC : Hid (TabAll wo mb mn) := HT5.out.below HBk.out
          generalize l9.length = n9 at HC4 HD4 HIC HID
          have hltI : (k : Int) < m := by omega
          clear q4 r4 hic hid hok hl5 hs9 hka
          go_wp2_with fail
          refine region_flow rfl 18 rfl (by decide +kernel) [154, 155, 156, 157, 158, 159, 160, 161, 162, 163, 164, 165, 166, 167, 168, 169, 170, 171] (by decide +kernel) rfl (by decide) (by simp) (fun w w' => Below w.heap.size w w') (fun w => Below wo.heap.size wo w)
            (fun j v _ => v = ([.bool true, .bool true, .pointer (some ⟨cB, 0, none⟩), .slice (some ⟨cb, co, none⟩) m vc, .int .i64 (k : Int), .pointer (some ⟨cb, co + k * 5, none⟩), .pointer (some ⟨cb, co + k * 5 + 4, none⟩), .slice la n9 la', .string s9, .pointer (some ⟨dB, 0, none⟩), .slice (some ⟨db, dof, none⟩) m uc, .int .i64 (k : Int), .pointer (some ⟨db, dof + k * 5, none⟩), .pointer (some ⟨db, dof + k * 5 + 4, none⟩), .slice xa n9 xa', .string s9, .bool true, .bool true] : List Value).getD j undef) (fun _ _ _ _ _ h => h) ?hr16 ?hs16 ?hl16
          case hs16 =>
            intro ix hix a wx hR hout hdep
            have hix' : ix = 0 ∨ ix = 1 ∨ ix = 2 ∨ ix = 3 ∨ ix = 4 ∨ ix = 5 ∨ ix = 6 ∨ ix = 7 ∨ ix = 8 ∨ ix = 9 ∨ ix = 10 ∨ ix = 11 ∨ ix = 12 ∨ ix = 13 ∨ ix = 14 ∨ ix = 15 ∨ ix = 16 ∨ ix = 17 := by omega
            rcases hix' with rfl | rfl | rfl | rfl | rfl | rfl | rfl | rfl | rfl | rfl | rfl | rfl | rfl | rfl | rfl | rfl | rfl | rfl
            · have HR := Lib.hid hR
              clear hR
              have e13 := hout 13 (by decide)
              clear hout hdep
              refine op_list (by rfl) ?_
              go_wp2
              exact withK_intro ⟨_, rfl, Below.refl _ _, HR.out, rfl⟩
            · have HR := Lib.hid hR
              clear hR
              have e154 : a.tmps[154]? = some (.bool true) := flow_dep hdep 0 154 (by kernel_rfl) rfl
              clear hout hdep
              refine op_list (by rfl) ?_
              go_wp2
              exact withK_intro ⟨_, rfl, Below.refl _ _, HR.out, rfl⟩
            · have HR := Lib.hid hR
              clear hR
              have e6 := hout 6 (by decide)
              have e155 : a.tmps[155]? = some (.bool true) := flow_dep hdep 1 155 (by kernel_rfl) rfl
              clear hout hdep
              refine op_list (by rfl) ?_
              go_wp2
              exact withK_intro ⟨_, rfl, Below.refl _ _, HR.out, rfl⟩
            · have HR := Lib.hid hR
              clear hR
              have e156 : a.tmps[156]? = some (.pointer (some ⟨cB, 0, none⟩)) := flow_dep hdep 2 156 (by kernel_rfl) rfl
              have e155 : a.tmps[155]? = some (.bool true) := flow_dep hdep 1 155 (by kernel_rfl) rfl
              have z0 := cell_below HR HC0.out
              clear hout hdep
              refine op_list (by rfl) ?_
              go_wp2
              exact withK_intro ⟨_, rfl, Below.refl _ _, HR.out, rfl⟩
            · have HR := Lib.hid hR
              clear hR
              have e14 := hout 14 (by decide)
              have e155 : a.tmps[155]? = some (.bool true) := flow_dep hdep 1 155 (by kernel_rfl) rfl
              clear hout hdep
              refine op_list (by rfl) ?_
              go_wp2
              exact withK_intro ⟨_, rfl, Below.refl _ _, HR.out, rfl⟩
            · have HR := Lib.hid hR
              clear hR
              have e157 : a.tmps[157]? = some (.slice (some ⟨cb, co, none⟩) m vc) := flow_dep hdep 3 157 (by kernel_rfl) rfl
              have e158 : a.tmps[158]? = some (.int .i64 (k : Int)) := flow_dep hdep 4 158 (by kernel_rfl) rfl
              have e155 : a.tmps[155]? = some (.bool true) := flow_dep hdep 1 155 (by kernel_rfl) rfl
              clear hout hdep
              refine op_list (by rfl) ?_
              go_wp2
              exact withK_intro ⟨_, rfl, Below.refl _ _, HR.out, rfl⟩
            · have HR := Lib.hid hR
              clear hR
              have e159 : a.tmps[159]? = some (.pointer (some ⟨cb, co + k * 5, none⟩)) := flow_dep hdep 5 159 (by kernel_rfl) rfl
              have e155 : a.tmps[155]? = some (.bool true) := flow_dep hdep 1 155 (by kernel_rfl) rfl
              clear hout hdep
              refine op_list (by rfl) ?_
              go_wp2
              exact withK_intro ⟨_, rfl, Below.refl _ _, HR.out, rfl⟩
            · have HR := Lib.hid hR
              clear hR
              have e160 : a.tmps[160]? = some (.pointer (some ⟨cb, co + k * 5 + 4, none⟩)) := flow_dep hdep 6 160 (by kernel_rfl) rfl
              have e155 : a.tmps[155]? = some (.bool true) := flow_dep hdep 1 155 (by kernel_rfl) rfl
              have z0 := cell_below HR HC4.out
              clear hout hdep
              refine op_list (by rfl) ?_
              go_wp2
              exact withK_intro ⟨_, rfl, Below.refl _ _, HR.out, rfl⟩
            · have HR := Lib.hid hR
              clear hR
              have e161 : a.tmps[161]? = some (.slice la n9 la') := flow_dep hdep 7 161 (by kernel_rfl) rfl
              have e155 : a.tmps[155]? = some (.bool true) := flow_dep hdep 1 155 (by kernel_rfl) rfl
              clear hout hdep
              refine op_list (by rfl) ?_
              go_wp2_with (go_at_call 9; refine (text_v _ _ _ l9 HTX.out.1 HTX.out.2.1 _ HTX.out.2.2 _ (HIC.out.stay HR.out) (HTC.out.below HR.out).code).mono ?_; rintro e w' ⟨rfl, hb⟩; have HBc := Lib.hid hb; clear hb)
              exact withK_intro ⟨_, rfl, HBc.out, HR.out.trans (HBc.out.mono HR.out.size), rfl⟩
            · have HR := Lib.hid hR
              clear hR
              have e9 := hout 9 (by decide)
              have e155 : a.tmps[155]? = some (.bool true) := flow_dep hdep 1 155 (by kernel_rfl) rfl
              clear hout hdep
              refine op_list (by rfl) ?_
              go_wp2
              exact withK_intro ⟨_, rfl, Below.refl _ _, HR.out, rfl⟩
            · have HR := Lib.hid hR
              clear hR
              have e163 : a.tmps[163]? = some (.pointer (some ⟨dB, 0, none⟩)) := flow_dep hdep 9 163 (by kernel_rfl) rfl
              have e155 : a.tmps[155]? = some (.bool true) := flow_dep hdep 1 155 (by kernel_rfl) rfl
              have z0 := cell_below HR HD0.out
              clear hout hdep
              refine op_list (by rfl) ?_
              go_wp2
              exact withK_intro ⟨_, rfl, Below.refl _ _, HR.out, rfl⟩
            · have HR := Lib.hid hR
              clear hR
              have e14 := hout 14 (by decide)
              have e155 : a.tmps[155]? = some (.bool true) := flow_dep hdep 1 155 (by kernel_rfl) rfl
              clear hout hdep
              refine op_list (by rfl) ?_
              go_wp2
              exact withK_intro ⟨_, rfl, Below.refl _ _, HR.out, rfl⟩
            · have HR := Lib.hid hR
              clear hR
              have e164 : a.tmps[164]? = some (.slice (some ⟨db, dof, none⟩) m uc) := flow_dep hdep 10 164 (by kernel_rfl) rfl
              have e165 : a.tmps[165]? = some (.int .i64 (k : Int)) := flow_dep hdep 11 165 (by kernel_rfl) rfl
              have e155 : a.tmps[155]? = some (.bool true) := flow_dep hdep 1 155 (by kernel_rfl) rfl
              clear hout hdep
              refine op_list (by rfl) ?_
              go_wp2
              exact withK_intro ⟨_, rfl, Below.refl _ _, HR.out, rfl⟩
            · have HR := Lib.hid hR
              clear hR
              have e166 : a.tmps[166]? = some (.pointer (some ⟨db, dof + k * 5, none⟩)) := flow_dep hdep 12 166 (by kernel_rfl) rfl
              have e155 : a.tmps[155]? = some (.bool true) := flow_dep hdep 1 155 (by kernel_rfl) rfl
              clear hout hdep
              refine op_list (by rfl) ?_
              go_wp2
              exact withK_intro ⟨_, rfl, Below.refl _ _, HR.out, rfl⟩
            · have HR := Lib.hid hR
              clear hR
              have e167 : a.tmps[167]? = some (.pointer (some ⟨db, dof + k * 5 + 4, none⟩)) := flow_dep hdep 13 167 (by kernel_rfl) rfl
              have e155 : a.tmps[155]? = some (.bool true) := flow_dep hdep 1 155 (by kernel_rfl) rfl
              have z0 := cell_below HR HD4.out
              clear hout hdep
              refine op_list (by rfl) ?_
              go_wp2
              exact withK_intro ⟨_, rfl, Below.refl _ _, HR.out, rfl⟩
            · have HR := Lib.hid hR
              clear hR
              have e168 : a.tmps[168]? = some (.slice xa n9 xa') := flow_dep hdep 14 168 (by kernel_rfl) rfl
              have e155 : a.tmps[155]? = some (.bool true) := flow_dep hdep 1 155 (by kernel_rfl) rfl
              clear hout hdep
              refine op_list (by rfl) ?_
              go_wp2_with (go_at_call 9; refine (text_v _ _ _ l9 HTX.out.1 HTX.out.2.1 _ HTX.out.2.2 _ (HID.out.stay HR.out) (HTC.out.below HR.out).code).mono ?_; rintro e w' ⟨rfl, hb⟩; have HBc := Lib.hid hb; clear hb)
              exact withK_intro ⟨_, rfl, HBc.out, HR.out.trans (HBc.out.mono HR.out.size), rfl⟩
            · have HR := Lib.hid hR
              clear hR
              have e162 : a.tmps[162]? = some (.string s9) := flow_dep hdep 8 162 (by kernel_rfl) rfl
              have e169 : a.tmps[169]? = some (.string s9) := flow_dep hdep 15 169 (by kernel_rfl) rfl
              have e155 : a.tmps[155]? = some (.bool true) := flow_dep hdep 1 155 (by kernel_rfl) rfl
              clear hout hdep
              refine op_list (by rfl) ?_
              go_wp2
              exact withK_intro ⟨_, rfl, Below.refl _ _, HR.out, rfl⟩
            · have HR := Lib.hid hR
              clear hR
              have e155 : a.tmps[155]? = some (.bool true) := flow_dep hdep 1 155 (by kernel_rfl) rfl
              have e170 : a.tmps[170]? = some (.bool true) := flow_dep hdep 16 170 (by kernel_rfl) rfl
              clear hout hdep
              refine op_list (by rfl) ?_
              go_wp2
              exact withK_intro ⟨_, rfl, Below.refl _ _, HR.out, rfl⟩
          case hl16 =>
            intro vs wx hR hφ
            have HR := Lib.hid hR
            clear hR
            rw [fill_congr _ [154, 155, 156, 157, 158, 159, 160, 161, 162, 163, 164, 165, 166, 167, 168, 169, 170, 171] vs (fun j => ([.bool true, .bool true, .pointer (some ⟨cB, 0, none⟩), .slice (some ⟨cb, co, none⟩) m vc, .int .i64 (k : Int), .pointer (some ⟨cb, co + k * 5, none⟩), .pointer (some ⟨cb, co + k * 5 + 4, none⟩), .slice la n9 la', .string s9, .pointer (some ⟨dB, 0, none⟩), .slice (some ⟨db, dof, none⟩) m uc, .int .i64 (k : Int), .pointer (some ⟨db, dof + k * 5, none⟩), .pointer (some ⟨db, dof + k * 5 + 4, none⟩), .slice xa n9 xa', .string s9, .bool true, .bool true] : List Value).getD j undef) (fun j hj => hφ j hj)]
            clear hφ vs
            refine op_list (by rfl) ?_
            simp only [fill, fillA, List.getD_cons_zero, List.getD_cons_succ, Nat.reduceAdd]
            have HBn : Hid (Below w5.heap.size w5 wx) := HBk.out.trans (HR.out.mono HBk.out.size)
            clear HTX HC0 HD0 HC4 HD4 HIC HID HTC
            simp only [List.setIfInBounds_toArray, List.set_cons_succ, List.set_cons_zero]
            go_wp2_with fail
            refine withK_intro ?_
            go_wp2_with fail
            go_roundw
            case rel => exact ⟨rfl, k + 1, by go_num, by omega, by omega, HBn⟩
            case measure => simp [intOf]; omega
          case hr16 => exact (Below.refl _ _).drew
        · obtain rfl : k = m := by omega
          go_wp2_with fail
          go_ret
          exact ⟨rfl, HBW.out.trans (HBk.out.mono HBW.out.size)⟩
    case hr12 => exact (Below.refl _ _).drew

theorem i64_and62 (n : Int) : Go.bits .and .i64 n 4611686018427387903 = n % 4611686018427387904 := by
  have h127 : (BitVec.ofInt 64 4611686018427387903).toNat = 2 ^ 62 - 1 := by decide
  have key : (BitVec.ofInt 64 n &&& BitVec.ofInt 64 4611686018427387903).toNat = (n % ((2 ^ 64 : Nat) : Int)).toNat % 2 ^ 62 := by
    rw [BitVec.toNat_and, BitVec.toNat_ofInt, h127, Nat.and_two_pow_sub_one_eq_mod]
  show IntKind.i64.wrap ((BitVec.ofInt 64 n &&& BitVec.ofInt 64 4611686018427387903).toNat : Nat) = n % 4611686018427387904
  rw [key, IntKind.wrap_i64]
  omega
theorem bits_62 (n : Int) : ∃ x : Int, Go.bits .and .i64 n 4611686018427387903 = x ∧ 0 ≤ x ∧ x ≤ 4611686018427387903 := ⟨_, rfl, by rw [i64_and62]; omega⟩

set_option maxHeartbeats 8000000 in
set_option maxRecDepth 1000000 in
theorem adds_bad (a1 a2 : Option Addr) (n1 n2 k1 k2 : Nat) (p : PT) (ns y : Int) (hy : Go.bits .and .i64 ns 4611686018427387903 = y) (mb mn : Nat) (w : World) (ht : TabAll w mb mn) (hp : PR w (.slice a1 n1 k1) (.slice a2 n2 k2) p) (hN : p.nodes.length ≤ 1048576) (r : Int) (hr : p.resolve = r) (h0 : r ≠ 0) :
    Calls Tryd.prog 5 #[.agg #[.slice a1 n1 k1, .slice a2 n2 k2], .int .i64 ns] w fun e w' => e = .returned (.bool true) ∧ Below w.heap.size w w' := by
  have hr1 : (r == 0) = false := by simpa using h0
  have hr2 : (r != 0) = true := by simpa using h0
  have HT := Lib.hid ht
  have HP := Lib.hid hp
  have HN := Lib.hid hN
  have HR := Lib.hid hr
  clear ht hp hN hr h0
  have HB0 := hb_start w
  have HBA : Hid (Below w.heap.size w (w.alloc (.cells #[.slice a1 n1 k1, .slice a2 n2 k2] 25))) := hb_alloc HB0 _
  have HXA : Hid ((w.alloc (.cells #[.slice a1 n1 k1, .slice a2 n2 k2] 25)).heap[w.heap.size]? = some (.cells #[.slice a1 n1 k1, .slice a2 n2 k2] 25 (0, 0))) := heap_alloc_new _ _
  go_enter Tryd.func5, Tryd.ntmps5
  go_wp2_with fail
  refine (shown_r mb mn _ (HT.out.below HBA.out)).mono ?_
  rintro e w1 ⟨rfl, hb⟩
  have HB1 : Hid (Below w.heap.size w w1) := hb_step HBA hb
  have HX1 := Lib.hid ((hb.block _ (lt_of_heap HXA.out)).trans HXA.out)
  have c0 : w1.cell? ⟨w.heap.size, 0, none⟩ = some (.slice a1 n1 k1) := cell_of_heap HX1.out 0
  have c1 : w1.cell? ⟨w.heap.size, 1, none⟩ = some (.slice a2 n2 k2) := cell_of_heap HX1.out 1
  clear hb
  go_wp2_with fail
  refine (compile_r a1 a2 n1 n2 k1 k2 p mb mn _ (HT.out.below HB1.out).tree (HT.out.below HB1.out).smp (HP.out.stay HB1.out) (by have := HN.out; omega) _ HR.out).mono ?_
  rintro e w2 ⟨v, rfl, hb, hv⟩
  have HB2 : Hid (Below w.heap.size w w2) := hb_step HB1 hb
  obtain ⟨va, vc, rfl⟩ := hv.shape
  generalize (if r = 0 then p.code else []).length = m
  have HBX : Hid (Below w.heap.size w (w2.alloc (.cells #[.slice va m vc] 29))) := hb_alloc HB2 _
  clear hb hv c0 c1
  go_wp2_with fail
  go_ret
  exact ⟨rfl, HBX.out⟩
theorem adds_walk {H : Type} {d0 d1 : DataW H} (a1 : Option Addr) (n1 k1 : Nat) (a2 : Option Addr) (n2 k2 : Nat) (p : PT) (ns : Int) (w : World)
    (o0 : PR w (.slice a1 n1 k1) (.slice a2 n2 k2) p ∧ k1 ≤ 2199023255488 ∧ k2 ≤ 1353245080300)
    (b0 : p.nodes.length ≤ Rows.uptoBulk d0) (hbk : Rows.uptoSmall H ([d0, d1] ++ []) = true) (ht : ∃ mb mn, TabAll w mb mn) :
    Calls Tryd.prog 5 #[.agg #[.slice a1 n1 k1, .slice a2 n2 k2], .int .i64 ns] w fun e w' => e = .returned (.bool true) ∧ Below w.heap.size w w' := by
  have hb : Rows.uptoBulk d0 + (Rows.uptoBulk d1 + 0) ≤ 1048576 := of_decide_eq_true hbk
  obtain ⟨mb, mn, h⟩ := ht
  obtain ⟨y, hy, y0, y1⟩ := bits_62 ns
  by_cases h0 : p.resolve = 0
  · exact adds_ok a1 a2 n1 n2 k1 k2 p ns y hy y0 y1 mb mn w h o0.1 o0.2.2 (by omega) h0
  · exact adds_bad a1 a2 n1 n2 k1 k2 p ns y hy mb mn w h o0.1 (by omega) _ rfl h0
end Go.Proofs.YthjjcmmonjajhaaDoor
