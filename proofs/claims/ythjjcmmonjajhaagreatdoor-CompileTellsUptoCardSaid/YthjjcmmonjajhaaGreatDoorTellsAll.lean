/- What the document's Deep, Deeper, Depth, many, more, Size compute, as plain functions. The document's Deep, many. The document's Deeper, more. The document's Depth, Size. Depths and sizes where nothing wraps: what holds something is deeper, and larger, by one. Where nothing wraps the document's Depth, Size and Right are the program's own. -/
import Derived.Test.YthjjcmmonjajhaaGreatDoorTrees
import Derived.Test.YthjjcmmonjajhaaGreatDoorLexes
import Derived.Test.YthjjcmmonjajhaaGreatDoorFlows
namespace Go.Proofs.YthjjcmmonjajhaaGreatDoor
open Go.RowKit Go.Sort
set_option linter.unusedVariables false

mutual
def ET.rdeep : ET → Int
  | .mk _ _ _ l => ET.rdeepL l 0
def ET.rdeepL : List ET → Int → Int
  | [], n => n
  | e :: r, n => ET.rdeepL r (max n (wrap64 (1 + ET.rdeep e)))
end
mutual
def ST.rdeep : ST → Int
  | .mk _ _ _ l b e => max (ET.rdeepL l 0) (max (ST.rdeepL b 0) (ST.rdeepL e 0))
def ST.rdeepL : List ST → Int → Int
  | [], n => n
  | e :: r, n => ST.rdeepL r (max n (wrap64 (1 + ST.rdeep e)))
end
mutual
def ET.rmany : ET → Int
  | .mk _ _ _ l => ET.rmanyL l l.length
def ET.rmanyL : List ET → Int → Int
  | [], n => n
  | e :: r, n => ET.rmanyL r (wrap64 (n + ET.rmany e))
end
mutual
def ST.rmany : ST → Int → Int
  | .mk _ _ _ l b e, n => wrap64 (wrap64 (wrap64 (n + ET.rmanyL l l.length) + ST.rmanyL b b.length) + ST.rmanyL e e.length)
def ST.rmanyL : List ST → Int → Int
  | [], n => n
  | e :: r, n => ST.rmanyL r (ST.rmany e n)
end
theorem ET.rdeepL_append (l r : List ET) : ∀ n, ET.rdeepL (l ++ r) n = ET.rdeepL r (ET.rdeepL l n) := by
  induction l with
  | nil => intro n; rfl
  | cons e l ih => intro n; simp only [List.cons_append, ET.rdeepL]; exact ih _
theorem ST.rdeepL_append (l r : List ST) : ∀ n, ST.rdeepL (l ++ r) n = ST.rdeepL r (ST.rdeepL l n) := by
  induction l with
  | nil => intro n; rfl
  | cons e l ih => intro n; simp only [List.cons_append, ST.rdeepL]; exact ih _
theorem ET.rmanyL_append (l r : List ET) : ∀ n, ET.rmanyL (l ++ r) n = ET.rmanyL r (ET.rmanyL l n) := by
  induction l with
  | nil => intro n; rfl
  | cons e l ih => intro n; simp only [List.cons_append, ET.rmanyL]; exact ih _
theorem ST.rmanyL_append (l r : List ST) : ∀ n, ST.rmanyL (l ++ r) n = ST.rmanyL r (ST.rmanyL l n) := by
  induction l with
  | nil => intro n; rfl
  | cons e l ih => intro n; simp only [List.cons_append, ST.rmanyL]; exact ih _
theorem ET.rdeepL_take (l : List ET) (n : Int) (k : Nat) (h : k < l.length) : ET.rdeepL (l.take (k + 1)) n = max (ET.rdeepL (l.take k) n) (wrap64 (1 + ET.rdeepL (l.getD k default).parts 0)) := by
  rw [take_next l default k h, ET.rdeepL_append]
  cases l.getD k default; rfl
theorem ST.rdeepL_take (l : List ST) (n : Int) (k : Nat) (h : k < l.length) : ST.rdeepL (l.take (k + 1)) n = max (ST.rdeepL (l.take k) n) (wrap64 (1 + max (ET.rdeepL (l.getD k default).parts 0) (max (ST.rdeepL (l.getD k default).body 0) (ST.rdeepL (l.getD k default).els 0)))) := by
  rw [take_next l default k h, ST.rdeepL_append]
  cases l.getD k default; rfl
theorem ET.rmanyL_take (l : List ET) (n : Int) (k : Nat) (h : k < l.length) : ET.rmanyL (l.take (k + 1)) n = wrap64 (ET.rmanyL (l.take k) n + ET.rmanyL (l.getD k default).parts (l.getD k default).parts.length) := by
  rw [take_next l default k h, ET.rmanyL_append]
  cases l.getD k default; rfl
theorem ST.rmanyL_take (l : List ST) (n : Int) (k : Nat) (h : k < l.length) : ST.rmanyL (l.take (k + 1)) n = wrap64 (wrap64 (wrap64 (ST.rmanyL (l.take k) n + ET.rmanyL (l.getD k default).parts (l.getD k default).parts.length) + ST.rmanyL (l.getD k default).body (l.getD k default).body.length) + ST.rmanyL (l.getD k default).els (l.getD k default).els.length) := by
  rw [take_next l default k h, ST.rmanyL_append]
  cases l.getD k default; rfl
end Go.Proofs.YthjjcmmonjajhaaGreatDoor
namespace Go.Proofs.YthjjcmmonjajhaaGreatDoor
open Go.RowKit Go.Sort
set_option linter.unusedVariables false

set_option maxHeartbeats 4000000 in
set_option maxRecDepth 1000000 in
theorem rdeep_in (w0 : World) {v : Value} {l : List ET} (h : ESl w0 v l) : ∀ (q : Int) (hq : ET.rdeepL l 0 = q) (w : World) (hw : Below w0.heap.size w0 w),
    Calls Tryz.prog 87 #[v] w fun e w' => e = .returned (.int .i64 q) ∧ Below w.heap.size w w' := by
  induction h with
  | mk a b off cap l f ha hc hm hcell hsub ih =>
    intro q hq w hw
    have HA := Lib.hid ha
    have HC := Lib.hid hcell
    have HIH := Lib.hid ih
    have HSub := Lib.hid hsub
    have HW := Lib.hid hw
    have hm1 : cap ≤ 9223372036854775807 := hm
    have HQ := Lib.hid hq
    clear ha hcell ih hsub hw hm hq
    have HB := hb_start w
    go_enter Tryz.func87, Tryz.ntmps87
    go_wp2
    go_loopw [3, 4] (fun x i wr => ∃ (k : Nat) (m : Int), i = .int .i64 k ∧ x = .int .i64 m ∧ k ≤ l.length ∧ Hid (Below w.heap.size w wr) ∧ Hid (ET.rdeepL (l.take k) 0 = m)) (fun _ i _ => l.length - (intOf i).toNat)
    case atStart => exact ⟨0, 0, rfl, rfl, by omega, HB, by show _ = _; rfl⟩
    case round =>
      clear HB
      obtain ⟨k, m, rfl, rfl, hk, HB, HK⟩ := hrel
      by_cases hlt : k < l.length
      · obtain rfl := HA.out (by omega)
        have e3 := (HC.out k hlt).2.2.2
        have WB : Below w0.heap.size w0 wr := HW.out.trans (HB.out.mono HW.out.size)
        have hz : b < w0.heap.size := lt_of_cell e3
        replace e3 := (WB.cell (p := ⟨b, off + k * 4 + 3, none⟩) hz).trans e3
        have HI := Lib.hid (HIH.out k hlt)
        have HT := Lib.hid (ET.rdeepL_take l 0 k hlt)
        have hsh := (HSub.out k hlt).shape0
        generalize f k = pv at e3 HI hsh
        generalize (l.getD k default).parts = ps at HT HI hsh
        obtain ⟨pa, pc, rfl⟩ := hsh
        obtain ⟨z, hz'⟩ : ∃ z, ET.rdeepL ps 0 = z := ⟨_, rfl⟩
        obtain ⟨x, hx⟩ : ∃ x, wrap64 (1 + z) = x := ⟨_, rfl⟩
        have HT2 : Hid (ET.rdeepL (l.take (k + 1)) 0 = max m x) := by show _ = _; rw [HT.out, HK.out, hz', hx]
        have HZ := Lib.hid hz'
        have HWB := Lib.hid WB
        clear hz' HT WB hz
        rcases Int.lt_or_le m x with hmx | hmx
        · have HM : Hid (max m x = x) := Int.max_eq_right (by omega)
          go_wp2_with (go_at_call 87; refine (HI.out _ HZ.out _ HWB.out).mono ?_; rintro e w' ⟨rfl, hb⟩; have HB2 : Hid (Below w.heap.size w w') := hb_step HB hb; clear hb)
          go_roundw
          case rel => exact ⟨k + 1, x, by go_num, rfl, by omega, HB2, by show _ = _; rw [HT2.out, HM.out]⟩
          case measure => simp [intOf]; omega
        · have HM : Hid (max m x = m) := Int.max_eq_left (by omega)
          go_wp2_with (go_at_call 87; refine (HI.out _ HZ.out _ HWB.out).mono ?_; rintro e w' ⟨rfl, hb⟩; have HB2 : Hid (Below w.heap.size w w') := hb_step HB hb; clear hb)
          go_roundw
          case rel => exact ⟨k + 1, m, by go_num, rfl, by omega, HB2, by show _ = _; rw [HT2.out, HM.out]⟩
          case measure => simp [intOf]; omega
      · obtain rfl : k = l.length := by omega
        obtain rfl : m = q := by rw [← HK.out, ← HQ.out, List.take_length]
        go_wp2
        go_ret
        exact ⟨rfl, HB.out⟩

end Go.Proofs.YthjjcmmonjajhaaGreatDoor
namespace Go.Proofs.YthjjcmmonjajhaaGreatDoor
open Go.RowKit Go.Sort
set_option linter.unusedVariables false

set_option maxHeartbeats 4000000 in
set_option maxRecDepth 1000000 in
theorem rdeeper_in (w0 : World) {v : Value} {l : List ST} (h : SSl w0 v l) : ∀ (q : Int) (hq : ST.rdeepL l 0 = q) (w : World) (hw : Below w0.heap.size w0 w),
    Calls Tryz.prog 70 #[v] w fun e w' => e = .returned (.int .i64 q) ∧ Below w.heap.size w w' := by
  induction h with
  | mk a b off cap l f g hh ha hc hm hcell hsub hsub1 hsub2 ih1 ih2 =>
    intro q hq w hw
    have HA := Lib.hid ha
    have HC := Lib.hid hcell
    have HIH1 := Lib.hid ih1
    have HIH2 := Lib.hid ih2
    have HSub := Lib.hid hsub
    have HSub1 := Lib.hid hsub1
    have HSub2 := Lib.hid hsub2
    have HW := Lib.hid hw
    have hm1 : cap ≤ 9223372036854775807 := hm
    have HQ := Lib.hid hq
    clear ha hcell ih1 ih2 hsub hsub1 hsub2 hw hm hq
    have HB := hb_start w
    go_enter Tryz.func70, Tryz.ntmps70
    go_wp2
    go_loopw [3, 4] (fun x i wr => ∃ (k : Nat) (m : Int), i = .int .i64 k ∧ x = .int .i64 m ∧ k ≤ l.length ∧ Hid (Below w.heap.size w wr) ∧ Hid (ST.rdeepL (l.take k) 0 = m)) (fun _ i _ => l.length - (intOf i).toNat)
    case atStart => exact ⟨0, 0, rfl, rfl, by omega, HB, by show _ = _; rfl⟩
    case round =>
      clear HB
      obtain ⟨k, m, rfl, rfl, hk, HB, HK⟩ := hrel
      by_cases hlt : k < l.length
      · obtain rfl := HA.out (by omega)
        obtain ⟨_, _, _, e3, e4, e5⟩ := HC.out k hlt
        have WB : Below w0.heap.size w0 wr := HW.out.trans (HB.out.mono HW.out.size)
        have hz : b < w0.heap.size := lt_of_cell e3
        replace e3 := (WB.cell (p := ⟨b, off + k * 6 + 3, none⟩) hz).trans e3
        replace e4 := (WB.cell (p := ⟨b, off + k * 6 + 4, none⟩) hz).trans e4
        replace e5 := (WB.cell (p := ⟨b, off + k * 6 + 5, none⟩) hz).trans e5
        have HI0 := Lib.hid (HSub.out k hlt)
        have HI1 := Lib.hid (HIH1.out k hlt)
        have HI2 := Lib.hid (HIH2.out k hlt)
        have HT := Lib.hid (ST.rdeepL_take l 0 k hlt)
        have hsh := (HSub.out k hlt).shape0
        have hsh1 := (HSub1.out k hlt).shape0
        have hsh2 := (HSub2.out k hlt).shape0
        generalize f k = pv at e3 HI0 hsh
        generalize g k = pv1 at e4 HI1 hsh1
        generalize hh k = pv2 at e5 HI2 hsh2
        generalize (l.getD k default).parts = ps at HT HI0 hsh
        generalize (l.getD k default).body = bs at HT HI1 hsh1
        generalize (l.getD k default).els = es at HT HI2 hsh2
        obtain ⟨pa, pc, rfl⟩ := hsh
        obtain ⟨ba, bc, rfl⟩ := hsh1
        obtain ⟨ea, ec, rfl⟩ := hsh2
        obtain ⟨z1, hz1⟩ : ∃ z, ET.rdeepL ps 0 = z := ⟨_, rfl⟩
        obtain ⟨z2, hz2⟩ : ∃ z, ST.rdeepL bs 0 = z := ⟨_, rfl⟩
        obtain ⟨z3, hz3⟩ : ∃ z, ST.rdeepL es 0 = z := ⟨_, rfl⟩
        obtain ⟨y, hy⟩ : ∃ y, max z1 (max z2 z3) = y := ⟨_, rfl⟩
        obtain ⟨nx, hnx⟩ : ∃ y', max m (wrap64 (1 + y)) = y' := ⟨_, rfl⟩
        have HT2 : Hid (ST.rdeepL (l.take (k + 1)) 0 = nx) := by show _ = _; rw [HT.out, HK.out, hz1, hz2, hz3, hy, hnx]
        have HY := Lib.hid hy
        have HNX := Lib.hid hnx
        clear hy hnx
        have HZ1 := Lib.hid hz1
        have HZ2 := Lib.hid hz2
        have HZ3 := Lib.hid hz3
        have HWB := Lib.hid WB
        have HE3 := Lib.hid e3
        have HE4 := Lib.hid e4
        have HE5 := Lib.hid e5
        clear hz1 hz2 hz3 HT WB hz e3 e4 e5
        go_wp2_with fail
        refine region_flow rfl 22 rfl (by decide +kernel) [11, 12, 13, 14, 15, 16, 17, 18, 19, 20, 21, 22, 23, 24, 25, 26, 27, 28, 29, 30, 31, 32] (by decide +kernel) rfl (by decide) (by simp) (fun w w' => Below w.heap.size w w') (fun w => Below wr.heap.size wr w)
          (fun j v _ => v = ([.int .i64 m, .slice (some ⟨b, off, none⟩) l.length cap, .int .i64 (k : Int), .pointer (some ⟨b, off + k * 6, none⟩), .pointer (some ⟨b, off + k * 6 + 3, none⟩), .slice pa ps.length pc, .int .i64 z1, .slice (some ⟨b, off, none⟩) l.length cap, .int .i64 (k : Int), .pointer (some ⟨b, off + k * 6, none⟩), .pointer (some ⟨b, off + k * 6 + 4, none⟩), .slice ba bs.length bc, .int .i64 z2, .slice (some ⟨b, off, none⟩) l.length cap, .int .i64 (k : Int), .pointer (some ⟨b, off + k * 6, none⟩), .pointer (some ⟨b, off + k * 6 + 5, none⟩), .slice ea es.length ec, .int .i64 z3, .int .i64 y, .int .i64 (wrap64 (1 + y)), .int .i64 nx] : List Value).getD j undef) (fun _ _ _ _ _ h => h) ?hr5 ?hs5 ?hl5
        case hs5 =>
          intro ix hix a wx hR hout hdep
          have hix' : ix = 0 ∨ ix = 1 ∨ ix = 2 ∨ ix = 3 ∨ ix = 4 ∨ ix = 5 ∨ ix = 6 ∨ ix = 7 ∨ ix = 8 ∨ ix = 9 ∨ ix = 10 ∨ ix = 11 ∨ ix = 12 ∨ ix = 13 ∨ ix = 14 ∨ ix = 15 ∨ ix = 16 ∨ ix = 17 ∨ ix = 18 ∨ ix = 19 ∨ ix = 20 ∨ ix = 21 := by omega
          rcases hix' with rfl | rfl | rfl | rfl | rfl | rfl | rfl | rfl | rfl | rfl | rfl | rfl | rfl | rfl | rfl | rfl | rfl | rfl | rfl | rfl | rfl | rfl
          · have HR := Lib.hid hR
            clear hR
            have e3 := hout 3 (by decide)
            clear hout hdep
            refine op_list (by rfl) ?_
            go_wp2
            exact withK_intro ⟨_, rfl, Below.refl _ _, HR.out, rfl⟩
          · have HR := Lib.hid hR
            clear hR
            have e0 := hout 0 (by decide)
            clear hout hdep
            refine op_list (by rfl) ?_
            go_wp2
            exact withK_intro ⟨_, rfl, Below.refl _ _, HR.out, rfl⟩
          · have HR := Lib.hid hR
            clear hR
            have e4 := hout 4 (by decide)
            clear hout hdep
            refine op_list (by rfl) ?_
            go_wp2
            exact withK_intro ⟨_, rfl, Below.refl _ _, HR.out, rfl⟩
          · have HR := Lib.hid hR
            clear hR
            have e12 : a.tmps[12]? = some (.slice (some ⟨b, off, none⟩) l.length cap) := flow_dep hdep 1 12 (by kernel_rfl) rfl
            have e13 : a.tmps[13]? = some (.int .i64 (k : Int)) := flow_dep hdep 2 13 (by kernel_rfl) rfl
            clear hout hdep
            refine op_list (by rfl) ?_
            go_wp2
            exact withK_intro ⟨_, rfl, Below.refl _ _, HR.out, rfl⟩
          · have HR := Lib.hid hR
            clear hR
            have e14 : a.tmps[14]? = some (.pointer (some ⟨b, off + k * 6, none⟩)) := flow_dep hdep 3 14 (by kernel_rfl) rfl
            clear hout hdep
            refine op_list (by rfl) ?_
            go_wp2
            exact withK_intro ⟨_, rfl, Below.refl _ _, HR.out, rfl⟩
          · have HR := Lib.hid hR
            clear hR
            have e15 : a.tmps[15]? = some (.pointer (some ⟨b, off + k * 6 + 3, none⟩)) := flow_dep hdep 4 15 (by kernel_rfl) rfl
            have z := cell_below HR HE3.out
            clear hout hdep
            refine op_list (by rfl) ?_
            go_wp2
            exact withK_intro ⟨_, rfl, Below.refl _ _, HR.out, rfl⟩
          · have HR := Lib.hid hR
            clear hR
            have e16 : a.tmps[16]? = some (.slice pa ps.length pc) := flow_dep hdep 5 16 (by kernel_rfl) rfl
            clear hout hdep
            refine op_list (by rfl) ?_
            go_wp2_with (go_at_call 87; refine (rdeep_in w0 HI0.out _ HZ1.out _ (HWB.out.trans (HR.out.mono HWB.out.size))).mono ?_; rintro e w' ⟨rfl, hb⟩; have HBc := Lib.hid hb; clear hb)
            exact withK_intro ⟨_, rfl, HBc.out, HR.out.trans (HBc.out.mono HR.out.size), rfl⟩
          · have HR := Lib.hid hR
            clear hR
            have e0 := hout 0 (by decide)
            clear hout hdep
            refine op_list (by rfl) ?_
            go_wp2
            exact withK_intro ⟨_, rfl, Below.refl _ _, HR.out, rfl⟩
          · have HR := Lib.hid hR
            clear hR
            have e4 := hout 4 (by decide)
            clear hout hdep
            refine op_list (by rfl) ?_
            go_wp2
            exact withK_intro ⟨_, rfl, Below.refl _ _, HR.out, rfl⟩
          · have HR := Lib.hid hR
            clear hR
            have e18 : a.tmps[18]? = some (.slice (some ⟨b, off, none⟩) l.length cap) := flow_dep hdep 7 18 (by kernel_rfl) rfl
            have e19 : a.tmps[19]? = some (.int .i64 (k : Int)) := flow_dep hdep 8 19 (by kernel_rfl) rfl
            clear hout hdep
            refine op_list (by rfl) ?_
            go_wp2
            exact withK_intro ⟨_, rfl, Below.refl _ _, HR.out, rfl⟩
          · have HR := Lib.hid hR
            clear hR
            have e20 : a.tmps[20]? = some (.pointer (some ⟨b, off + k * 6, none⟩)) := flow_dep hdep 9 20 (by kernel_rfl) rfl
            clear hout hdep
            refine op_list (by rfl) ?_
            go_wp2
            exact withK_intro ⟨_, rfl, Below.refl _ _, HR.out, rfl⟩
          · have HR := Lib.hid hR
            clear hR
            have e21 : a.tmps[21]? = some (.pointer (some ⟨b, off + k * 6 + 4, none⟩)) := flow_dep hdep 10 21 (by kernel_rfl) rfl
            have z := cell_below HR HE4.out
            clear hout hdep
            refine op_list (by rfl) ?_
            go_wp2
            exact withK_intro ⟨_, rfl, Below.refl _ _, HR.out, rfl⟩
          · have HR := Lib.hid hR
            clear hR
            have e22 : a.tmps[22]? = some (.slice ba bs.length bc) := flow_dep hdep 11 22 (by kernel_rfl) rfl
            clear hout hdep
            refine op_list (by rfl) ?_
            go_wp2_with (go_at_call 70; refine (HI1.out _ HZ2.out _ (HWB.out.trans (HR.out.mono HWB.out.size))).mono ?_; rintro e w' ⟨rfl, hb⟩; have HBc := Lib.hid hb; clear hb)
            exact withK_intro ⟨_, rfl, HBc.out, HR.out.trans (HBc.out.mono HR.out.size), rfl⟩
          · have HR := Lib.hid hR
            clear hR
            have e0 := hout 0 (by decide)
            clear hout hdep
            refine op_list (by rfl) ?_
            go_wp2
            exact withK_intro ⟨_, rfl, Below.refl _ _, HR.out, rfl⟩
          · have HR := Lib.hid hR
            clear hR
            have e4 := hout 4 (by decide)
            clear hout hdep
            refine op_list (by rfl) ?_
            go_wp2
            exact withK_intro ⟨_, rfl, Below.refl _ _, HR.out, rfl⟩
          · have HR := Lib.hid hR
            clear hR
            have e24 : a.tmps[24]? = some (.slice (some ⟨b, off, none⟩) l.length cap) := flow_dep hdep 13 24 (by kernel_rfl) rfl
            have e25 : a.tmps[25]? = some (.int .i64 (k : Int)) := flow_dep hdep 14 25 (by kernel_rfl) rfl
            clear hout hdep
            refine op_list (by rfl) ?_
            go_wp2
            exact withK_intro ⟨_, rfl, Below.refl _ _, HR.out, rfl⟩
          · have HR := Lib.hid hR
            clear hR
            have e26 : a.tmps[26]? = some (.pointer (some ⟨b, off + k * 6, none⟩)) := flow_dep hdep 15 26 (by kernel_rfl) rfl
            clear hout hdep
            refine op_list (by rfl) ?_
            go_wp2
            exact withK_intro ⟨_, rfl, Below.refl _ _, HR.out, rfl⟩
          · have HR := Lib.hid hR
            clear hR
            have e27 : a.tmps[27]? = some (.pointer (some ⟨b, off + k * 6 + 5, none⟩)) := flow_dep hdep 16 27 (by kernel_rfl) rfl
            have z := cell_below HR HE5.out
            clear hout hdep
            refine op_list (by rfl) ?_
            go_wp2
            exact withK_intro ⟨_, rfl, Below.refl _ _, HR.out, rfl⟩
          · have HR := Lib.hid hR
            clear hR
            have e28 : a.tmps[28]? = some (.slice ea es.length ec) := flow_dep hdep 17 28 (by kernel_rfl) rfl
            clear hout hdep
            refine op_list (by rfl) ?_
            go_wp2_with (go_at_call 70; refine (HI2.out _ HZ3.out _ (HWB.out.trans (HR.out.mono HWB.out.size))).mono ?_; rintro e w' ⟨rfl, hb⟩; have HBc := Lib.hid hb; clear hb)
            exact withK_intro ⟨_, rfl, HBc.out, HR.out.trans (HBc.out.mono HR.out.size), rfl⟩
          · have HR := Lib.hid hR
            clear hR
            have e17 : a.tmps[17]? = some (.int .i64 z1) := flow_dep hdep 6 17 (by kernel_rfl) rfl
            have e23 : a.tmps[23]? = some (.int .i64 z2) := flow_dep hdep 12 23 (by kernel_rfl) rfl
            have e29 : a.tmps[29]? = some (.int .i64 z3) := flow_dep hdep 18 29 (by kernel_rfl) rfl
            clear hout hdep
            refine op_list (by rfl) ?_
            go_wp2
            all_goals exact withK_intro ⟨_, rfl, Below.refl _ _, HR.out, by show Value.int _ _ = Value.int _ _; have := HY.out; congr 1; omega⟩
          · have HR := Lib.hid hR
            clear hR
            have e30 : a.tmps[30]? = some (.int .i64 y) := flow_dep hdep 19 30 (by kernel_rfl) rfl
            clear hout hdep
            refine op_list (by rfl) ?_
            go_wp2
            exact withK_intro ⟨_, rfl, Below.refl _ _, HR.out, rfl⟩
          · have HR := Lib.hid hR
            clear hR
            have e11 : a.tmps[11]? = some (.int .i64 m) := flow_dep hdep 0 11 (by kernel_rfl) rfl
            have e31 : a.tmps[31]? = some (.int .i64 (wrap64 (1 + y))) := flow_dep hdep 20 31 (by kernel_rfl) rfl
            clear hout hdep
            refine op_list (by rfl) ?_
            go_wp2
            all_goals exact withK_intro ⟨_, rfl, Below.refl _ _, HR.out, by show Value.int _ _ = Value.int _ _; have := HNX.out; congr 1; omega⟩
        case hl5 =>
          intro vs wx hR hφ
          have HR := Lib.hid hR
          clear hR
          rw [fill_congr _ [11, 12, 13, 14, 15, 16, 17, 18, 19, 20, 21, 22, 23, 24, 25, 26, 27, 28, 29, 30, 31, 32] vs (fun j => ([.int .i64 m, .slice (some ⟨b, off, none⟩) l.length cap, .int .i64 (k : Int), .pointer (some ⟨b, off + k * 6, none⟩), .pointer (some ⟨b, off + k * 6 + 3, none⟩), .slice pa ps.length pc, .int .i64 z1, .slice (some ⟨b, off, none⟩) l.length cap, .int .i64 (k : Int), .pointer (some ⟨b, off + k * 6, none⟩), .pointer (some ⟨b, off + k * 6 + 4, none⟩), .slice ba bs.length bc, .int .i64 z2, .slice (some ⟨b, off, none⟩) l.length cap, .int .i64 (k : Int), .pointer (some ⟨b, off + k * 6, none⟩), .pointer (some ⟨b, off + k * 6 + 5, none⟩), .slice ea es.length ec, .int .i64 z3, .int .i64 y, .int .i64 (wrap64 (1 + y)), .int .i64 nx] : List Value).getD j undef) (fun j hj => hφ j hj)]
          clear hφ vs
          refine op_list (by rfl) ?_
          simp only [fill, fillA, List.getD_cons_zero, List.getD_cons_succ, Nat.reduceAdd]
          go_wp2_with fail
          refine withK_intro ?_
          go_wp2
          go_roundw
          case rel => exact ⟨k + 1, nx, by go_num, rfl, by omega, hb_step HB HR.out, HT2⟩
          case measure => simp [intOf]; omega
        case hr5 => exact (Below.refl _ _).drew
      · obtain rfl : k = l.length := by omega
        obtain rfl : m = q := by rw [← HK.out, ← HQ.out, List.take_length]
        go_wp2
        go_ret
        exact ⟨rfl, HB.out⟩

end Go.Proofs.YthjjcmmonjajhaaGreatDoor
namespace Go.Proofs.YthjjcmmonjajhaaGreatDoor
open Go.RowKit Go.Sort
set_option linter.unusedVariables false

def FT.rdepthL (l : List FT) (n : Int) : Int := l.foldl (fun n f => max n (ST.rdeepL f.body 0)) n
def FT.rsizeL (l : List FT) (n : Int) : Int := l.foldl (fun n f => wrap64 (n + ST.rmanyL f.body f.body.length)) n
def PT.rdepth (p : PT) : Int := FT.rdepthL p.funcs (ST.rdeepL p.main 0)
def PT.rsize (p : PT) : Int := FT.rsizeL p.funcs (ST.rmanyL p.main p.main.length)
theorem FT.rdepthL_take (l : List FT) (n : Int) (k : Nat) (h : k < l.length) : FT.rdepthL (l.take (k + 1)) n = max (FT.rdepthL (l.take k) n) (ST.rdeepL (l.getD k default).body 0) := by
  rw [take_next l default k h]; simp [FT.rdepthL]
theorem FT.rsizeL_take (l : List FT) (n : Int) (k : Nat) (h : k < l.length) : FT.rsizeL (l.take (k + 1)) n = wrap64 (FT.rsizeL (l.take k) n + ST.rmanyL (l.getD k default).body (l.getD k default).body.length) := by
  rw [take_next l default k h]; simp [FT.rsizeL]

set_option maxHeartbeats 4000000 in
set_option maxRecDepth 1000000 in
theorem rdepth_r (w : World) {fv mv : Value} {p : PT} (hp : PR w fv mv p) (q : Int) (hq : p.rdepth = q) :
    Calls Tryz.prog 41 #[.agg #[fv, mv]] w fun e w' => e = .returned (.int .i64 q) ∧ Below w.heap.size w w' := by
  obtain ⟨fl, ml⟩ := p
  obtain ⟨hF, hM⟩ := hp
  obtain ⟨ma, mc, rfl⟩ := hM.shape0
  simp only at hF hM
  cases hF with
  | mk a b off cap _ f g ha hc hm hcell hts hss =>
    have HA := Lib.hid ha
    have HC := Lib.hid hcell
    have HS := Lib.hid hss
    have HM := Lib.hid hM
    have hm1 : cap ≤ 9223372036854775807 := hm
    have HQ := Lib.hid hq
    obtain ⟨m0, hm0⟩ : ∃ z, ST.rdeepL ml 0 = z := ⟨_, rfl⟩
    have HM0 := Lib.hid hm0
    clear ha hcell hts hss hm hq hM hm0
    have HB := hb_start w
    go_enter Tryz.func41, Tryz.ntmps41
    go_wp2_with fail
    refine (rdeeper_in w HM.out _ HM0.out _ ((Below.refl _ _).alloc (Nat.le_refl _) _)).mono ?_
    rintro e w1 ⟨rfl, hb⟩
    have HB1 : Hid (Below w.heap.size w w1) := hb_step (by repeat (first | exact HB | refine hb_drew ?_ | refine hb_alloc ?_ _)) hb
    have HY : Hid (w1.cell? ⟨w.heap.size, 0, none⟩ = some (.slice a fl.length cap)) := (hb.cell (p := ⟨w.heap.size, 0, none⟩) (by simp)).trans (by simp)
    clear hb HB
    have y0 := HY.out
    go_wp2_with fail
    go_loopw [3, 4] (fun x i wr => ∃ (k : Nat) (m : Int), i = .int .i64 k ∧ x = .int .i64 m ∧ k ≤ fl.length ∧ Hid (Below w1.heap.size w1 wr) ∧ Hid (FT.rdepthL (fl.take k) m0 = m)) (fun _ i _ => fl.length - (intOf i).toNat)
    case atStart => exact ⟨0, m0, rfl, rfl, by omega, hb_start w1, by show _ = _; rfl⟩
    case round =>
      clear y0
      obtain ⟨k, m, rfl, rfl, hk, HB2, HK⟩ := hrel
      have y0 := cell_below HB2 HY.out
      by_cases hlt : k < fl.length
      · obtain rfl := HA.out (by omega)
        have e2 := (HC.out k hlt).2.2
        have WB : Below w.heap.size w wr := HB1.out.trans (HB2.out.mono HB1.out.size)
        have hz : b < w.heap.size := lt_of_cell e2
        replace e2 := (WB.cell (p := ⟨b, off + k * 3 + 2, none⟩) hz).trans e2
        have HI := Lib.hid (HS.out k hlt)
        have HT := Lib.hid (FT.rdepthL_take fl m0 k hlt)
        have hsh := (HS.out k hlt).shape0
        generalize g k = pv at e2 HI hsh
        generalize (fl.getD k default).body = ps at HT HI hsh
        obtain ⟨pa, pc, rfl⟩ := hsh
        obtain ⟨x, hx⟩ : ∃ z, ST.rdeepL ps 0 = z := ⟨_, rfl⟩
        have HT2 : Hid (FT.rdepthL (fl.take (k + 1)) m0 = max m x) := by show _ = _; rw [HT.out, HK.out, hx]
        have HX := Lib.hid hx
        have HWB := Lib.hid WB
        clear hx HT WB hz
        rcases Int.lt_or_le m x with hmx | hmx
        · have HM : Hid (max m x = x) := Int.max_eq_right (by omega)
          go_wp2_with (go_at_call 70; refine (rdeeper_in w HI.out _ HX.out _ HWB.out).mono ?_; rintro e w' ⟨rfl, hb⟩; have HB3 : Hid (Below w1.heap.size w1 w') := hb_step HB2 hb; clear hb)
          go_roundw
          case rel => exact ⟨k + 1, x, by go_num, rfl, by omega, HB3, by show _ = _; rw [HT2.out, HM.out]⟩
          case measure => simp [intOf]; omega
        · have HM : Hid (max m x = m) := Int.max_eq_left (by omega)
          go_wp2_with (go_at_call 70; refine (rdeeper_in w HI.out _ HX.out _ HWB.out).mono ?_; rintro e w' ⟨rfl, hb⟩; have HB3 : Hid (Below w1.heap.size w1 w') := hb_step HB2 hb; clear hb)
          go_roundw
          case rel => exact ⟨k + 1, m, by go_num, rfl, by omega, HB3, by show _ = _; rw [HT2.out, HM.out]⟩
          case measure => simp [intOf]; omega
      · obtain rfl : k = fl.length := by omega
        obtain rfl : m = q := by rw [← HK.out, ← HQ.out, List.take_length, ← HM0.out]; rfl
        go_wp2
        go_ret
        exact ⟨rfl, HB1.out.trans (HB2.out.mono HB1.out.size)⟩

end Go.Proofs.YthjjcmmonjajhaaGreatDoor
namespace Go.Proofs.YthjjcmmonjajhaaGreatDoor
open Go.RowKit Go.Sort
set_option linter.unusedVariables false

theorem wrap_small {x : Int} (h0 : 0 ≤ x) (h : x ≤ 4611686018427387904) : wrap64 x = x := by
  unfold wrap64; omega
def up1 (x : Bool × Int) : Bool × Int := (x.1, x.2 + 1)
mutual
theorem ET.nodes_len : ∀ (e : ET) (d d' : Int), (e.nodes d).length = (e.nodes d').length
  | .mk o n s l, d, d' => by simp only [ET.nodes, List.length_cons]; rw [ET.nodesL_len l _ (wrap64 (d' + 1))]
theorem ET.nodesL_len : ∀ (l : List ET) (d d' : Int), (ET.nodesL l d).length = (ET.nodesL l d').length
  | [], _, _ => rfl
  | e :: r, d, d' => by simp only [ET.nodesL, List.length_append]; rw [ET.nodes_len e d d', ET.nodesL_len r d d']
end
mutual
theorem ST.nodes_len : ∀ (e : ST) (d d' : Int), (e.nodes d).length = (e.nodes d').length
  | .mk o n s l b e, d, d' => by simp only [ST.nodes, List.length_cons, List.length_append]; rw [ET.nodesL_len l _ (wrap64 (d' + 1)), ST.nodesL_len b _ (wrap64 (d' + 1)), ST.nodesL_len e _ (wrap64 (d' + 1))]
theorem ST.nodesL_len : ∀ (l : List ST) (d d' : Int), (ST.nodesL l d).length = (ST.nodesL l d').length
  | [], _, _ => rfl
  | e :: r, d, d' => by simp only [ST.nodesL, List.length_append]; rw [ST.nodes_len e d d', ST.nodesL_len r d d']
end
mutual
theorem ET.nodes_up : ∀ (e : ET) (d : Int), 0 ≤ d → d + (e.nodes 0).length ≤ 4611686018427387000 → e.nodes (d + 1) = (e.nodes d).map up1
  | .mk o n s l, d, h0, h => by
    simp only [ET.nodes, List.length_cons, List.map_cons, up1] at h ⊢
    rw [ET.nodesL_len l _ 0] at h
    rw [wrap_small (x := d + 1) (by omega) (by omega), wrap_small (x := d + 1 + 1) (by omega) (by omega), ET.nodesL_up l (d + 1) (by omega) (by omega)]
theorem ET.nodesL_up : ∀ (l : List ET) (d : Int), 0 ≤ d → d + (ET.nodesL l 0).length ≤ 4611686018427387000 → ET.nodesL l (d + 1) = (ET.nodesL l d).map up1
  | [], _, _, _ => rfl
  | e :: r, d, h0, h => by
    simp only [ET.nodesL, List.length_append, List.map_append] at h ⊢
    rw [ET.nodes_up e d h0 (by omega), ET.nodesL_up r d h0 (by omega)]
end
mutual
theorem ST.nodes_up : ∀ (e : ST) (d : Int), 0 ≤ d → d + (e.nodes 0).length ≤ 4611686018427387000 → e.nodes (d + 1) = (e.nodes d).map up1
  | .mk o n s l b e, d, h0, h => by
    simp only [ST.nodes, List.length_cons, List.map_cons, up1, List.length_append, List.map_append] at h ⊢
    rw [ET.nodesL_len l _ 0, ST.nodesL_len b _ 0, ST.nodesL_len e _ 0] at h
    rw [wrap_small (x := d + 1) (by omega) (by omega), wrap_small (x := d + 1 + 1) (by omega) (by omega), ET.nodesL_up l (d + 1) (by omega) (by omega), ST.nodesL_up b (d + 1) (by omega) (by omega), ST.nodesL_up e (d + 1) (by omega) (by omega)]
theorem ST.nodesL_up : ∀ (l : List ST) (d : Int), 0 ≤ d → d + (ST.nodesL l 0).length ≤ 4611686018427387000 → ST.nodesL l (d + 1) = (ST.nodesL l d).map up1
  | [], _, _, _ => rfl
  | e :: r, d, h0, h => by
    simp only [ST.nodesL, List.length_append, List.map_append] at h ⊢
    rw [ST.nodes_up e d h0 (by omega), ST.nodesL_up r d h0 (by omega)]
end
theorem depthF_from (l : List (Bool × Int)) : ∀ n : Int, 0 ≤ n → l.foldl (fun n x => max n x.2) n = max n (depthF l) := by
  induction l with
  | nil => intro n h; simp [depthF]; omega
  | cons x l ih =>
    intro n h
    have e1 := ih (max n x.2) (by omega)
    have e2 := ih (max 0 x.2) (by omega)
    simp only [depthF, List.foldl_cons] at e1 e2 ⊢
    rw [e1, e2]; omega
theorem depthF_nonneg (l : List (Bool × Int)) : 0 ≤ depthF l := by
  have := depthF_from l 0 (by omega)
  unfold depthF at this ⊢
  omega
theorem depthF_cons (x : Bool × Int) (l : List (Bool × Int)) : depthF (x :: l) = max (max 0 x.2) (depthF l) := by
  have := depthF_from l (max 0 x.2) (by omega)
  simpa [depthF] using this
theorem depthF_append (l r : List (Bool × Int)) : depthF (l ++ r) = max (depthF l) (depthF r) := by
  have := depthF_from r (depthF l) (depthF_nonneg l)
  rw [← this]; simp [depthF]
theorem depthF_up (l : List (Bool × Int)) (h : ∀ x ∈ l, 0 ≤ x.2) (hne : l ≠ []) : depthF (l.map up1) = depthF l + 1 := by
  induction l with
  | nil => exact absurd rfl hne
  | cons x l ih =>
    have hx := h x (by simp)
    rw [List.map_cons, depthF_cons, depthF_cons]
    by_cases hl : l = []
    · subst hl; simp only [up1, List.map_nil, depthF, List.foldl_nil]; omega
    · rw [ih (fun y hy => h y (by simp [hy])) hl]; simp only [up1]; have := depthF_nonneg l; omega
theorem sizeF_from (l : List (Bool × Int)) : ∀ n : Int, 0 ≤ n → n + l.length ≤ 4611686018427387904 → l.foldl (fun n _ => wrap64 (n + 1)) n = n + l.length := by
  induction l with
  | nil => intro n _ _; simp
  | cons x l ih =>
    intro n h0 h
    simp only [List.length_cons] at h
    rw [List.foldl_cons, wrap_small (by omega) (by omega), ih (n + 1) (by omega) (by omega)]
    simp only [List.length_cons]; omega
theorem sizeF_small (l : List (Bool × Int)) (h : l.length ≤ 4611686018427387904) : sizeF l = l.length := by
  have := sizeF_from l 0 (by omega) (by omega)
  rw [Int.zero_add] at this; exact this
mutual
theorem ET.nodes_ge : ∀ (e : ET) (d : Int), 1 ≤ d → d + (e.nodes 0).length ≤ 4611686018427387000 → ∀ x ∈ e.nodes d, d ≤ x.2
  | .mk o n s l, d, h0, h => by
    simp only [ET.nodes, List.length_cons] at h ⊢
    rw [ET.nodesL_len l _ 0] at h
    rw [wrap_small (x := d + 1) (by omega) (by omega)]
    intro x hx
    rcases List.mem_cons.1 hx with rfl | hx
    · exact Int.le_refl _
    · have := ET.nodesL_ge l (d + 1) (by omega) (by omega) x hx; omega
theorem ET.nodesL_ge : ∀ (l : List ET) (d : Int), 1 ≤ d → d + (ET.nodesL l 0).length ≤ 4611686018427387000 → ∀ x ∈ ET.nodesL l d, d ≤ x.2
  | [], _, _, _ => by intro x hx; simp [ET.nodesL] at hx
  | e :: r, d, h0, h => by
    simp only [ET.nodesL, List.length_append] at h ⊢
    intro x hx
    rcases List.mem_append.1 hx with hx | hx
    · exact ET.nodes_ge e d h0 (by omega) x hx
    · exact ET.nodesL_ge r d h0 (by omega) x hx
end
mutual
theorem ST.nodes_ge : ∀ (e : ST) (d : Int), 1 ≤ d → d + (e.nodes 0).length ≤ 4611686018427387000 → ∀ x ∈ e.nodes d, d ≤ x.2
  | .mk o n s l b e, d, h0, h => by
    simp only [ST.nodes, List.length_cons, List.length_append] at h ⊢
    rw [ET.nodesL_len l _ 0, ST.nodesL_len b _ 0, ST.nodesL_len e _ 0] at h
    rw [wrap_small (x := d + 1) (by omega) (by omega)]
    intro x hx
    rcases List.mem_cons.1 hx with rfl | hx
    · exact Int.le_refl _
    · rcases List.mem_append.1 hx with hx | hx
      · have := ET.nodesL_ge l (d + 1) (by omega) (by omega) x hx; omega
      · rcases List.mem_append.1 hx with hx | hx
        · have := ST.nodesL_ge b (d + 1) (by omega) (by omega) x hx; omega
        · have := ST.nodesL_ge e (d + 1) (by omega) (by omega) x hx; omega
theorem ST.nodesL_ge : ∀ (l : List ST) (d : Int), 1 ≤ d → d + (ST.nodesL l 0).length ≤ 4611686018427387000 → ∀ x ∈ ST.nodesL l d, d ≤ x.2
  | [], _, _, _ => by intro x hx; simp [ST.nodesL] at hx
  | e :: r, d, h0, h => by
    simp only [ST.nodesL, List.length_append] at h ⊢
    intro x hx
    rcases List.mem_append.1 hx with hx | hx
    · exact ST.nodes_ge e d h0 (by omega) x hx
    · exact ST.nodesL_ge r d h0 (by omega) x hx
end
def lone (l : List ST) : PT := ⟨[], l⟩
theorem lone_nodes (l : List ST) : (lone l).nodes = ST.nodesL l 1 := rfl
/-- The depth of what a statement with one small expression holds. -/
theorem held_depth (l : List ST) (hl : (ST.nodesL l 1).length ≤ 1048576) : ∀ (A : List (Bool × Int)) (x y : Bool), A = (x, 1) :: (y, 2) :: ST.nodesL l 2 → depthF A = max (lone l).depth 1 + 1 ∧ sizeF A = (lone l).size + 2 := by
  rintro A x y rfl
  have hup := ST.nodesL_up l 1 (by omega) (by rw [ST.nodesL_len l 0 1]; omega)
  have hge := ST.nodesL_ge l 1 (by omega) (by rw [ST.nodesL_len l 0 1]; omega)
  rw [show (1 : Int) + 1 = 2 from rfl] at hup
  unfold PT.depth PT.size
  rw [lone_nodes]
  refine ⟨?_, ?_⟩
  · rw [depthF_cons, depthF_cons, hup]
    by_cases h0 : ST.nodesL l 1 = []
    · rw [h0]; rfl
    · rw [depthF_up _ (fun z hz => by have := hge z hz; omega) h0]
      obtain ⟨z, r, hz⟩ := List.exists_cons_of_ne_nil h0
      have h1 : 1 ≤ depthF (ST.nodesL l 1) := by
        rw [hz, depthF_cons]; have := hge z (by rw [hz]; simp); omega
      omega
  · rw [sizeF_small _ (by simp only [List.length_cons]; rw [ST.nodesL_len l 2 1]; omega), sizeF_small _ (by omega)]
    simp only [List.length_cons]; rw [ST.nodesL_len l 2 1]; omega
/-- One number, as the law lays it. -/
def unitT : ET := .mk 1 1 ⟨#[]⟩ []
theorem deep_while (l : List ST) (hl : (ST.nodesL l 1).length ≤ 1048576) (s : ByteArray) : (lone [.mk 8 0 s [unitT] l []]).depth = max (lone l).depth 1 + 1 ∧ (lone [.mk 8 0 s [unitT] l []]).size = (lone l).size + 2 :=
  held_depth l hl _ (stmtB 8 0 s 1 l.length 0) (exprB 1 1 ⟨#[]⟩ 0) (by rw [lone_nodes]; simp [ST.nodesL, ST.nodes, ET.nodesL, ET.nodes, unitT, wrap64])
theorem deep_if (l : List ST) (hl : (ST.nodesL l 1).length ≤ 1048576) (s : ByteArray) : (lone [.mk 7 0 s [unitT] [] l]).depth = max (lone l).depth 1 + 1 ∧ (lone [.mk 7 0 s [unitT] [] l]).size = (lone l).size + 2 :=
  held_depth l hl _ (stmtB 7 0 s 1 0 l.length) (exprB 1 1 ⟨#[]⟩ 0) (by rw [lone_nodes]; simp [ST.nodesL, ST.nodes, ET.nodesL, ET.nodes, unitT, wrap64])
theorem deep_func (l : List ST) (s : ByteArray) (ps : List ByteArray) : (PT.mk [⟨s, ps, l⟩] []).depth = (lone l).depth ∧ (PT.mk [⟨s, ps, l⟩] []).size = (lone l).size := by
  have : (PT.mk [⟨s, ps, l⟩] []).nodes = (lone l).nodes := by simp [PT.nodes, lone, FT.nodesL, ST.nodesL]
  unfold PT.depth PT.size
  rw [this]; exact ⟨rfl, rfl⟩
theorem deep_both (l r : List ST) (hl : (ST.nodesL l 1).length ≤ 1048576) (hr : (ST.nodesL r 1).length ≤ 1048576) : (lone (l ++ r)).depth = max (lone l).depth (lone r).depth ∧ (lone (l ++ r)).size = (lone l).size + (lone r).size := by
  unfold PT.depth PT.size
  rw [lone_nodes, lone_nodes, lone_nodes, ST.nodesL_append]
  refine ⟨depthF_append _ _, ?_⟩
  rw [sizeF_small _ (by simp only [List.length_append]; omega), sizeF_small _ (by omega), sizeF_small _ (by omega)]
  simp
theorem deep_whole (p : PT) (hp : p.nodes.length ≤ 1048576) : (lone p.main).depth ≤ p.depth ∧ (lone p.main).size ≤ p.size := by
  unfold PT.depth PT.size
  rw [lone_nodes]
  unfold PT.nodes at hp ⊢
  rw [List.length_append] at hp
  refine ⟨by rw [depthF_append]; omega, ?_⟩
  rw [sizeF_small _ (by omega), sizeF_small _ (by simp only [List.length_append]; omega), List.length_append]
  omega
theorem ST.node_pos (e : ST) (d : Int) : 0 < (e.nodes d).length := by cases e; simp [ST.nodes]
theorem ST.le_nodesL (l : List ST) (d : Int) : l.length ≤ (ST.nodesL l d).length := by
  induction l with
  | nil => simp
  | cons e r ih => have := ST.node_pos e d; simp only [ST.nodesL, List.length_append, List.length_cons]; omega
theorem main_le (p : PT) (h : p.nodes.length ≤ 1048576) : p.main.length ≤ 1048576 ∧ (ST.nodesL p.main 1).length ≤ 1048576 := by
  unfold PT.nodes at h
  rw [List.length_append] at h
  have := ST.le_nodesL p.main 1
  omega
theorem depthF_le (l : List (Bool × Int)) (m : Int) (h0 : 0 ≤ m) (h : ∀ x ∈ l, x.2 ≤ m) : depthF l ≤ m := by
  induction l with
  | nil => simp [depthF]; exact h0
  | cons x l ih =>
    rw [depthF_cons]
    have := h x (by simp)
    have := ih (fun y hy => h y (by simp [hy]))
    omega
mutual
theorem ET.nodes_le : ∀ (e : ET) (d : Int), 1 ≤ d → d + (e.nodes 0).length ≤ 4611686018427387000 → ∀ x ∈ e.nodes d, x.2 < d + (e.nodes 0).length
  | .mk o n s l, d, h0, h => by
    simp only [ET.nodes, List.length_cons] at h ⊢
    rw [ET.nodesL_len l _ 0] at h
    rw [wrap_small (x := d + 1) (by omega) (by omega), ET.nodesL_len l (wrap64 (0 + 1)) 0]
    intro x hx
    rcases List.mem_cons.1 hx with rfl | hx
    · show d < _; omega
    · have := ET.nodesL_le l (d + 1) (by omega) (by omega) x hx; omega
theorem ET.nodesL_le : ∀ (l : List ET) (d : Int), 1 ≤ d → d + (ET.nodesL l 0).length ≤ 4611686018427387000 → ∀ x ∈ ET.nodesL l d, x.2 < d + (ET.nodesL l 0).length
  | [], _, _, _ => by intro x hx; simp [ET.nodesL] at hx
  | e :: r, d, h0, h => by
    simp only [ET.nodesL, List.length_append] at h ⊢
    intro x hx
    rcases List.mem_append.1 hx with hx | hx
    · have := ET.nodes_le e d h0 (by omega) x hx; omega
    · have := ET.nodesL_le r d h0 (by omega) x hx; omega
end
mutual
theorem ST.nodes_le : ∀ (e : ST) (d : Int), 1 ≤ d → d + (e.nodes 0).length ≤ 4611686018427387000 → ∀ x ∈ e.nodes d, x.2 < d + (e.nodes 0).length
  | .mk o n s l b e, d, h0, h => by
    simp only [ST.nodes, List.length_cons, List.length_append] at h ⊢
    rw [ET.nodesL_len l _ 0, ST.nodesL_len b _ 0, ST.nodesL_len e _ 0] at h
    rw [wrap_small (x := d + 1) (by omega) (by omega), ET.nodesL_len l (wrap64 (0 + 1)) 0, ST.nodesL_len b (wrap64 (0 + 1)) 0, ST.nodesL_len e (wrap64 (0 + 1)) 0]
    intro x hx
    rcases List.mem_cons.1 hx with rfl | hx
    · show d < _; omega
    · rcases List.mem_append.1 hx with hx | hx
      · have := ET.nodesL_le l (d + 1) (by omega) (by omega) x hx; omega
      · rcases List.mem_append.1 hx with hx | hx
        · have := ST.nodesL_le b (d + 1) (by omega) (by omega) x hx; omega
        · have := ST.nodesL_le e (d + 1) (by omega) (by omega) x hx; omega
theorem ST.nodesL_le : ∀ (l : List ST) (d : Int), 1 ≤ d → d + (ST.nodesL l 0).length ≤ 4611686018427387000 → ∀ x ∈ ST.nodesL l d, x.2 < d + (ST.nodesL l 0).length
  | [], _, _, _ => by intro x hx; simp [ST.nodesL] at hx
  | e :: r, d, h0, h => by
    simp only [ST.nodesL, List.length_append] at h ⊢
    intro x hx
    rcases List.mem_append.1 hx with hx | hx
    · have := ST.nodes_le e d h0 (by omega) x hx; omega
    · have := ST.nodesL_le r d h0 (by omega) x hx; omega
end
theorem deep_range (p : PT) (hp : p.nodes.length ≤ 1048576) : (0 ≤ (lone p.main).depth ∧ (lone p.main).depth ≤ 1048578) ∧ (0 ≤ (lone p.main).size ∧ (lone p.main).size ≤ 1048576) := by
  have hl := (main_le p hp).2
  refine ⟨⟨depthF_nonneg _, depthF_le _ _ (by omega) fun x hx => ?_⟩, ?_⟩
  · have := ST.nodesL_le p.main 1 (by omega) (by rw [ST.nodesL_len _ 0 1]; omega) x hx
    rw [ST.nodesL_len _ 0 1] at this; omega
  · unfold PT.size
    rw [lone_nodes, sizeF_small _ (by omega)]
    omega
end Go.Proofs.YthjjcmmonjajhaaGreatDoor
namespace Go.Proofs.YthjjcmmonjajhaaGreatDoor
open Go.RowKit Go.Sort
set_option linter.unusedVariables false

mutual
theorem ET.rdeep_eq : ∀ (e : ET) (d : Int), 1 ≤ d → d + (e.nodes 0).length ≤ 4611686018427387000 → 0 ≤ e.rdeep ∧ e.rdeep + 1 ≤ (e.nodes 0).length ∧ depthF (e.nodes d) = d + e.rdeep
  | .mk o n s l, d, h0, h => by
    simp only [ET.nodes, List.length_cons, ET.rdeep] at h ⊢
    rw [ET.nodesL_len l _ 0] at h ⊢
    have := ET.rdeepL_eq l 0 (d + 1) (by omega) (by omega) (by omega) (by omega)
    rw [wrap_small (x := d + 1) (by omega) (by omega), depthF_cons]
    simp only
    omega
theorem ET.rdeepL_eq : ∀ (l : List ET) (n d : Int), 0 ≤ n → n ≤ 4611686018427387000 → 1 ≤ d → d + (ET.nodesL l 0).length ≤ 4611686018427387000 →
    (0 ≤ ET.rdeepL l 0 ∧ ET.rdeepL l 0 ≤ (ET.nodesL l 0).length) ∧ ET.rdeepL l n = max n (ET.rdeepL l 0) ∧ max (d - 1) (depthF (ET.nodesL l d)) = d - 1 + ET.rdeepL l 0
  | [], n, d, hn, hn', h0, h => by simp [ET.rdeepL, ET.nodesL, depthF]; omega
  | e :: r, n, d, hn, hn', h0, h => by
    simp only [ET.nodesL, List.length_append, ET.rdeepL] at h ⊢
    have h1 := ET.rdeep_eq e d h0 (by omega)
    rw [wrap_small (x := 1 + e.rdeep) (by omega) (by omega), depthF_append]
    have h2 := ET.rdeepL_eq r (max n (1 + e.rdeep)) d (by omega) (by omega) h0 (by omega)
    have h3 := ET.rdeepL_eq r (max 0 (1 + e.rdeep)) d (by omega) (by omega) h0 (by omega)
    have h4 := depthF_nonneg (ET.nodesL r d)
    omega
end
mutual
theorem ST.rdeep_eq : ∀ (e : ST) (d : Int), 1 ≤ d → d + (e.nodes 0).length ≤ 4611686018427387000 → 0 ≤ e.rdeep ∧ e.rdeep + 1 ≤ (e.nodes 0).length ∧ depthF (e.nodes d) = d + e.rdeep
  | .mk o n s l b e, d, h0, h => by
    simp only [ST.nodes, List.length_cons, List.length_append, ST.rdeep] at h ⊢
    rw [ET.nodesL_len l _ 0, ST.nodesL_len b _ 0, ST.nodesL_len e _ 0] at h ⊢
    have h1 := ET.rdeepL_eq l 0 (d + 1) (by omega) (by omega) (by omega) (by omega)
    have h2 := ST.rdeepL_eq b 0 (d + 1) (by omega) (by omega) (by omega) (by omega)
    have h3 := ST.rdeepL_eq e 0 (d + 1) (by omega) (by omega) (by omega) (by omega)
    obtain ⟨⟨a0, a1⟩, _, a2⟩ := h1
    obtain ⟨⟨b0, b1⟩, _, b2⟩ := h2
    obtain ⟨⟨c0, c1⟩, _, c2⟩ := h3
    rw [wrap_small (x := d + 1) (by omega) (by omega), depthF_cons, depthF_append, depthF_append]
    simp only
    generalize ET.rdeepL l 0 = x at *
    generalize ST.rdeepL b 0 = y at *
    generalize ST.rdeepL e 0 = z at *
    generalize depthF (ET.nodesL l (d + 1)) = u at *
    generalize depthF (ST.nodesL b (d + 1)) = v at *
    generalize depthF (ST.nodesL e (d + 1)) = t at *
    have e1 : max d u = d + x := by omega
    have e2 : max d v = d + y := by omega
    have e3 : max d t = d + z := by omega
    clear a2 b2 c2
    refine ⟨by omega, by omega, ?_⟩
    rw [Int.max_eq_right (show (0 : Int) ≤ d by omega)]
    have e4 : max d (max v t) = d + max y z := by clear e1; omega
    clear e2 e3
    omega
theorem ST.rdeepL_eq : ∀ (l : List ST) (n d : Int), 0 ≤ n → n ≤ 4611686018427387000 → 1 ≤ d → d + (ST.nodesL l 0).length ≤ 4611686018427387000 →
    (0 ≤ ST.rdeepL l 0 ∧ ST.rdeepL l 0 ≤ (ST.nodesL l 0).length) ∧ ST.rdeepL l n = max n (ST.rdeepL l 0) ∧ max (d - 1) (depthF (ST.nodesL l d)) = d - 1 + ST.rdeepL l 0
  | [], n, d, hn, hn', h0, h => by simp [ST.rdeepL, ST.nodesL, depthF]; omega
  | e :: r, n, d, hn, hn', h0, h => by
    simp only [ST.nodesL, List.length_append, ST.rdeepL] at h ⊢
    have h1 := ST.rdeep_eq e d h0 (by omega)
    rw [wrap_small (x := 1 + e.rdeep) (by omega) (by omega), depthF_append]
    have h2 := ST.rdeepL_eq r (max n (1 + e.rdeep)) d (by omega) (by omega) h0 (by omega)
    have h3 := ST.rdeepL_eq r (max 0 (1 + e.rdeep)) d (by omega) (by omega) h0 (by omega)
    have h4 := depthF_nonneg (ST.nodesL r d)
    omega
end
theorem ST.rdeepL_depth (l : List ST) (h : (ST.nodesL l 1).length ≤ 1048576) : depthF (ST.nodesL l 1) = ST.rdeepL l 0 := by
  rw [ST.nodesL_len l 1 0] at h
  have := ST.rdeepL_eq l 0 1 (by omega) (by omega) (by omega) (by omega)
  have h4 := depthF_nonneg (ST.nodesL l 1)
  omega
theorem ET.node_pos (e : ET) (d : Int) : 0 < (e.nodes d).length := by cases e; simp [ET.nodes]
theorem ET.le_nodesL (l : List ET) (d : Int) : l.length ≤ (ET.nodesL l d).length := by
  induction l with
  | nil => simp
  | cons e r ih => have := ET.node_pos e d; simp only [ET.nodesL, List.length_append, List.length_cons]; omega
mutual
theorem ET.rmany_eq : ∀ (e : ET), (e.nodes 0).length ≤ 1048576 → e.rmany + 1 = (e.nodes 0).length ∧ 0 ≤ e.rmany
  | .mk o n s l, h => by
    simp only [ET.nodes, List.length_cons, ET.rmany] at h ⊢
    rw [ET.nodesL_len l _ 0] at h ⊢
    have hl := ET.le_nodesL l 0
    have := ET.rmanyL_eq l l.length (by omega) (by omega) (by omega)
    omega
theorem ET.rmanyL_eq : ∀ (l : List ET) (n : Int), 0 ≤ n → (ET.nodesL l 0).length ≤ 1048576 → n + (ET.nodesL l 0).length ≤ 4611686018427387000 → ET.rmanyL l n + l.length = n + (ET.nodesL l 0).length
  | [], n, hn, hn', h => by simp [ET.rmanyL, ET.nodesL]
  | e :: r, n, hn, hn', h => by
    simp only [ET.nodesL, List.length_append, ET.rmanyL, List.length_cons] at h hn' ⊢
    have h1 := ET.rmany_eq e (by omega)
    rw [wrap_small (x := n + e.rmany) (by omega) (by omega)]
    have h2 := ET.rmanyL_eq r (n + e.rmany) (by omega) (by omega) (by omega)
    omega
end
mutual
theorem ST.rmany_eq : ∀ (e : ST) (n : Int), 0 ≤ n → (e.nodes 0).length ≤ 1048576 → n + (e.nodes 0).length ≤ 4611686018427387000 → ST.rmany e n + 1 = n + (e.nodes 0).length
  | .mk o k s l b e, n, hn, h, h' => by
    simp only [ST.nodes, List.length_cons, List.length_append, ST.rmany] at h h' ⊢
    rw [ET.nodesL_len l _ 0, ST.nodesL_len b _ 0, ST.nodesL_len e _ 0] at h h' ⊢
    have hl := ET.le_nodesL l 0
    have hb := ST.le_nodesL b 0
    have he := ST.le_nodesL e 0
    have h1 := ET.rmanyL_eq l l.length (by omega) (by omega) (by omega)
    have h2 := ST.rmanyL_eq b b.length (by omega) (by omega) (by omega)
    have h3 := ST.rmanyL_eq e e.length (by omega) (by omega) (by omega)
    rw [wrap_small (x := n + _) (by omega) (by omega), wrap_small (x := n + _ + _) (by omega) (by omega), wrap_small (x := n + _ + _ + _) (by omega) (by omega)]
    omega
theorem ST.rmanyL_eq : ∀ (l : List ST) (n : Int), 0 ≤ n → (ST.nodesL l 0).length ≤ 1048576 → n + (ST.nodesL l 0).length ≤ 4611686018427387000 → ST.rmanyL l n + l.length = n + (ST.nodesL l 0).length
  | [], n, hn, hn', h => by simp [ST.rmanyL, ST.nodesL]
  | e :: r, n, hn, hn', h => by
    simp only [ST.nodesL, List.length_append, ST.rmanyL, List.length_cons] at h hn' ⊢
    have h0 := ST.node_pos e 0
    have h1 := ST.rmany_eq e n hn (by omega) (by omega)
    have h2 := ST.rmanyL_eq r (ST.rmany e n) (by omega) (by omega) (by omega)
    omega
end
theorem ST.rmanyL_size (l : List ST) (h : (ST.nodesL l 1).length ≤ 1048576) : ST.rmanyL l l.length = (ST.nodesL l 1).length := by
  rw [ST.nodesL_len l 1 0] at h ⊢
  have hl := ST.le_nodesL l 0
  have := ST.rmanyL_eq l l.length (by omega) (by omega) (by omega)
  omega
theorem rdepthL_eq (l : List FT) : ∀ n : Int, 0 ≤ n → (FT.nodesL l).length ≤ 1048576 → FT.rdepthL l n = max n (depthF (FT.nodesL l)) := by
  induction l with
  | nil => intro n hn _; simp [FT.rdepthL, FT.nodesL, depthF]; omega
  | cons f r ih =>
    intro n hn h
    simp only [FT.nodesL, List.flatMap_cons, List.length_append] at h
    have h1 := ST.rdeepL_depth f.body (by omega)
    have h0 := depthF_nonneg (ST.nodesL f.body 1)
    have h2 := ih (max n (ST.rdeepL f.body 0)) (by omega) (by unfold FT.nodesL; omega)
    simp only [FT.rdepthL, List.foldl_cons, FT.nodesL, List.flatMap_cons] at h2 ⊢
    rw [h2, depthF_append]
    omega
theorem PT.rdepth_eq (p : PT) (h : p.nodes.length ≤ 1048576) : p.rdepth = p.depth := by
  unfold PT.rdepth PT.depth
  unfold PT.nodes at h ⊢
  rw [List.length_append] at h
  have h1 := ST.rdeepL_depth p.main (by omega)
  have h0 := depthF_nonneg (ST.nodesL p.main 1)
  rw [rdepthL_eq _ _ (by omega) (by omega), depthF_append]
  omega
theorem rsizeL_eq (l : List FT) : ∀ n : Int, 0 ≤ n → n + (FT.nodesL l).length ≤ 1048576 → FT.rsizeL l n = n + (FT.nodesL l).length := by
  induction l with
  | nil => intro n hn _; simp [FT.rsizeL, FT.nodesL]
  | cons f r ih =>
    intro n hn h
    simp only [FT.nodesL, List.flatMap_cons, List.length_append] at h
    have h1 := ST.rmanyL_size f.body (by omega)
    have h2 := ih (n + (ST.nodesL f.body 1).length) (by omega) (by unfold FT.nodesL; omega)
    simp only [FT.rsizeL, List.foldl_cons, FT.nodesL, List.flatMap_cons, List.length_append] at h2 ⊢
    rw [h1, wrap_small (by omega) (by omega), h2]
    omega
theorem PT.rsize_eq (p : PT) (h : p.nodes.length ≤ 1048576) : p.rsize = p.size := by
  unfold PT.rsize PT.size
  unfold PT.nodes at h ⊢
  rw [List.length_append] at h
  rw [ST.rmanyL_size _ (by omega), rsizeL_eq _ _ (by omega) (by omega), sizeF_small _ (by rw [List.length_append]; omega), List.length_append]
  omega

/- What the document's expr, exprs, stmts tell. -/
mutual
def ET.okB : ET → Bool
  | .mk o n s l => exprB o n s l.length && ET.okL l
def ET.okL : List ET → Bool
  | [] => true
  | e :: r => ET.okB e && ET.okL r
end
mutual
def ST.okB : ST → Bool
  | .mk o n s l b e => stmtB o n s l.length b.length e.length && (ET.okL l && (ST.okL b && ST.okL e))
def ST.okL : List ST → Bool
  | [] => true
  | e :: r => ST.okB e && ST.okL r
end
mutual
theorem ET.okB_eq : ∀ (e : ET) (d : Int), (e.nodes d).all (·.1) = e.okB
  | .mk o n s l, d => by simp only [ET.nodes, ET.okB, List.all_cons]; rw [ET.okL_eq l]
theorem ET.okL_eq : ∀ (l : List ET) (d : Int), (ET.nodesL l d).all (·.1) = ET.okL l
  | [], _ => rfl
  | e :: r, d => by simp only [ET.nodesL, ET.okL, List.all_append]; rw [ET.okB_eq e, ET.okL_eq r]
end
mutual
theorem ST.okB_eq : ∀ (e : ST) (d : Int), (e.nodes d).all (·.1) = e.okB
  | .mk o n s l b e, d => by simp only [ST.nodes, ST.okB, List.all_cons, List.all_append]; rw [ET.okL_eq l, ST.okL_eq b, ST.okL_eq e]
theorem ST.okL_eq : ∀ (l : List ST) (d : Int), (ST.nodesL l d).all (·.1) = ST.okL l
  | [], _ => rfl
  | e :: r, d => by simp only [ST.nodesL, ST.okL, List.all_append]; rw [ST.okB_eq e, ST.okL_eq r]
end
theorem ET.okL_append (l r : List ET) : ET.okL (l ++ r) = (ET.okL l && ET.okL r) := by
  rw [← ET.okL_eq _ 0, ET.nodesL_append, List.all_append, ET.okL_eq, ET.okL_eq]
theorem ST.okL_append (l r : List ST) : ST.okL (l ++ r) = (ST.okL l && ST.okL r) := by
  rw [← ST.okL_eq _ 0, ST.nodesL_append, List.all_append, ST.okL_eq, ST.okL_eq]
theorem ET.okL_take (l : List ET) (k : Nat) (h : k < l.length) : ET.okL (l.take (k + 1)) = (ET.okL (l.take k) && (l.getD k default).okB) := by
  rw [take_next l default k h, ET.okL_append]; simp [ET.okL]
theorem ST.okL_take (l : List ST) (k : Nat) (h : k < l.length) : ST.okL (l.take (k + 1)) = (ST.okL (l.take k) && (l.getD k default).okB) := by
  rw [take_next l default k h, ST.okL_append]; simp [ST.okL]
theorem ET.okB_parts (e : ET) : e.okB = (exprB e.op e.num e.name e.parts.length && ET.okL e.parts) := by cases e; rfl
theorem ST.okB_parts (e : ST) : e.okB = (stmtB e.op e.num e.name e.parts.length e.body.length e.els.length && (ET.okL e.parts && (ST.okL e.body && ST.okL e.els))) := by cases e; rfl
/-- A row that begins with what is not right is not right. -/
theorem ET.okL_mem (l : List ET) (k : Nat) (hk : k < l.length) (h : (l.getD k default).okB = false) : ET.okL l = false := by
  have h1 := ET.okL_take l k hk
  rw [h, Bool.and_false] at h1
  rw [← List.take_append_drop (k + 1) l, ET.okL_append, h1]; rfl
theorem ST.okL_mem (l : List ST) (k : Nat) (hk : k < l.length) (h : (l.getD k default).okB = false) : ST.okL l = false := by
  have h1 := ST.okL_take l k hk
  rw [h, Bool.and_false] at h1
  rw [← List.take_append_drop (k + 1) l, ST.okL_append, h1]; rfl
def FT.okB (f : FT) : Bool := nameB f.name && (ST.okL f.body && (decide (f.params.length ≤ 8) && f.params.all nameB))
/-- What the document's Right tells. -/
def PT.rright (p : PT) : Int := if decide (p.funcs.length ≤ 32) && (p.funcs.all FT.okB && ST.okL p.main) then (if 64 < p.rdepth then 3 else 0) else 1
theorem FT.ok_all (l : List FT) : l.all FT.okB = (!l.any (fun f => !f.headB) && (FT.nodesL l).all (·.1)) := by
  induction l with
  | nil => rfl
  | cons f r ih =>
    have hp : (!f.params.any (fun s => !nameB s)) = f.params.all nameB := by
      rw [List.not_any_eq_all_not]; simp
    simp only [List.all_cons, List.any_cons, FT.nodesL, List.flatMap_cons, List.all_append] at ih ⊢
    rw [ih, ST.okL_eq]
    unfold FT.okB FT.headB
    rw [hp]
    cases nameB f.name <;> cases ST.okL f.body <;> cases decide (f.params.length ≤ 8) <;> cases f.params.all nameB <;> cases r.any (fun f => !f.headB) <;> simp
theorem PT.rright_eq (p : PT) (h : p.nodes.length ≤ 1048576) : p.rright = p.right := by
  unfold PT.rright PT.right PT.headsB
  rw [PT.rdepth_eq p h, FT.ok_all]
  unfold PT.nodes
  rw [List.all_append, ST.okL_eq]
  congr 1
  cases decide (p.funcs.length ≤ 32) <;> cases p.funcs.any (fun f => !f.headB) <;> cases (FT.nodesL p.funcs).all (·.1) <;> simp
end Go.Proofs.YthjjcmmonjajhaaGreatDoor
