/- lands: a jump's target is set. -/
import Derived.Test.YthjjcmmonjajhaaDoorCompPut
import Derived.Test.YthjjcmmonjajhaaDoorTreeFlow
namespace Go.Proofs.YthjjcmmonjajhaaDoor
open Go.RowKit Go.Sort
set_option linter.unusedVariables false

set_option maxHeartbeats 4000000 in
set_option maxRecDepth 1000000 in
theorem lands_r (n0 wb : Nat) (sc : SC) (vv av all : Value) (l : List VI) (k : Nat) (hk : k < l.length) (W : World) (hw : Wr n0 W wb sc vv av all l) (hn : n0 ≤ W.heap.size) :
    Calls Tryd.prog 48 #[.pointer (some ⟨wb, 0, none⟩), .int .i64 k] W fun e w' => e = .returned (.tuple #[]) ∧ Wk n0 wb W w' ∧ Wr n0 w' wb sc vv av all (landV l k) := by
  obtain ⟨hge, lv, hb, ho⟩ := hw
  have hlt := lt_of_heap hb
  obtain ⟨g, cap, rfl, hc1, hc2, hg, cur, hh, hsz, htk⟩ := idx_ne ho (by omega)
  have HC5 : Hid (W.cell? ⟨wb, 5, none⟩ = some (.slice (some ⟨g, 0, none⟩) l.length cap)) := cell_of_heap hb 5
  have HO := Lib.hid ho
  have HBX := Lib.hid hb
  have hD0 : Hid (W.cell? ⟨g, k * 3 + 1, none⟩ = some (.int .i64 (l.getD k default).a)) := (own_cell ho (k * 3 + 1) (by omega)).trans ((insR_at l k 1 hk (by omega)).trans rfl)
  have hD1 : Hid (W.frozen? ⟨g, k * 3 + 1, none⟩ = false) := free_of_heap hh _
  have HH := Lib.hid hh
  have HNE : Hid (wb ≠ g) := fun e => own_ne_box ho hb (by decide) (by rw [e]; rfl)
  clear ho hb hh hsz htk
  go_enter Tryd.func48, Tryd.ntmps48
  go_wp2_with fail
  refine region_flow rfl 12 rfl (by decide +kernel) [4, 5, 6, 7, 8, 9, 10, 11, 12, 13, 14, 15] (by decide +kernel) rfl (by decide) (by simp) (fun w w' => Below w.heap.size w w') (fun w => Below W.heap.size W w)
    (fun j v _ => v = ([.pointer (some ⟨wb, 0, none⟩), .pointer (some ⟨wb, 0, none⟩), .pointer (some ⟨wb, 5, none⟩), .slice (some ⟨g, 0, none⟩) l.length cap, .int .i64 (k : Int), .pointer (some ⟨wb, 0, none⟩), .pointer (some ⟨wb, 0, none⟩), .pointer (some ⟨wb, 5, none⟩), .slice (some ⟨g, 0, none⟩) l.length cap, .int .i64 l.length, .pointer (some ⟨g, k * 3, none⟩), .pointer (some ⟨g, k * 3 + 1, none⟩)] : List Value).getD j undef) (fun _ _ _ _ _ h => h) ?hr0 ?hs0 ?hl0
  case hs0 =>
    intro ix hix a wx hR hout hdep
    have hix' : ix = 0 ∨ ix = 1 ∨ ix = 2 ∨ ix = 3 ∨ ix = 4 ∨ ix = 5 ∨ ix = 6 ∨ ix = 7 ∨ ix = 8 ∨ ix = 9 ∨ ix = 10 ∨ ix = 11 := by omega
    rcases hix' with rfl | rfl | rfl | rfl | rfl | rfl | rfl | rfl | rfl | rfl | rfl | rfl
    · have HR := Lib.hid hR
      clear hR
      have e0 := hout 0 (by decide)
      clear hout hdep
      refine op_list (by rfl) ?_
      go_wp2
      exact withK_intro ⟨_, rfl, Below.refl _ _, HR.out, rfl⟩
    · have HR := Lib.hid hR
      clear hR
      have e4 : a.tmps[4]? = some (.pointer (some ⟨wb, 0, none⟩)) := flow_dep hdep 0 4 (by kernel_rfl) rfl
      clear hout hdep
      refine op_list (by rfl) ?_
      go_wp2
      exact withK_intro ⟨_, rfl, Below.refl _ _, HR.out, rfl⟩
    · have HR := Lib.hid hR
      clear hR
      have e5 : a.tmps[5]? = some (.pointer (some ⟨wb, 0, none⟩)) := flow_dep hdep 1 5 (by kernel_rfl) rfl
      clear hout hdep
      refine op_list (by rfl) ?_
      go_wp2
      exact withK_intro ⟨_, rfl, Below.refl _ _, HR.out, rfl⟩
    · have HR := Lib.hid hR
      clear hR
      have e6 : a.tmps[6]? = some (.pointer (some ⟨wb, 5, none⟩)) := flow_dep hdep 2 6 (by kernel_rfl) rfl
      have c5 := (HR.out.cell (p := ⟨wb, 5, none⟩) (lt_of_cell HC5.out)).trans HC5.out
      clear hout hdep
      refine op_list (by rfl) ?_
      go_wp2
      exact withK_intro ⟨_, rfl, Below.refl _ _, HR.out, rfl⟩
    · have HR := Lib.hid hR
      clear hR
      have e1 := hout 1 (by decide)
      clear hout hdep
      refine op_list (by rfl) ?_
      go_wp2
      exact withK_intro ⟨_, rfl, Below.refl _ _, HR.out, rfl⟩
    · have HR := Lib.hid hR
      clear hR
      have e0 := hout 0 (by decide)
      clear hout hdep
      refine op_list (by rfl) ?_
      go_wp2
      exact withK_intro ⟨_, rfl, Below.refl _ _, HR.out, rfl⟩
    · have HR := Lib.hid hR
      clear hR
      have e9 : a.tmps[9]? = some (.pointer (some ⟨wb, 0, none⟩)) := flow_dep hdep 5 9 (by kernel_rfl) rfl
      clear hout hdep
      refine op_list (by rfl) ?_
      go_wp2
      exact withK_intro ⟨_, rfl, Below.refl _ _, HR.out, rfl⟩
    · have HR := Lib.hid hR
      clear hR
      have e10 : a.tmps[10]? = some (.pointer (some ⟨wb, 0, none⟩)) := flow_dep hdep 6 10 (by kernel_rfl) rfl
      clear hout hdep
      refine op_list (by rfl) ?_
      go_wp2
      exact withK_intro ⟨_, rfl, Below.refl _ _, HR.out, rfl⟩
    · have HR := Lib.hid hR
      clear hR
      have e11 : a.tmps[11]? = some (.pointer (some ⟨wb, 5, none⟩)) := flow_dep hdep 7 11 (by kernel_rfl) rfl
      have c5 := (HR.out.cell (p := ⟨wb, 5, none⟩) (lt_of_cell HC5.out)).trans HC5.out
      clear hout hdep
      refine op_list (by rfl) ?_
      go_wp2
      exact withK_intro ⟨_, rfl, Below.refl _ _, HR.out, rfl⟩
    · have HR := Lib.hid hR
      clear hR
      have e12 : a.tmps[12]? = some (.slice (some ⟨g, 0, none⟩) l.length cap) := flow_dep hdep 8 12 (by kernel_rfl) rfl
      clear hout hdep
      refine op_list (by rfl) ?_
      go_wp2
      exact withK_intro ⟨_, rfl, Below.refl _ _, HR.out, rfl⟩
    · have HR := Lib.hid hR
      clear hR
      have e7 : a.tmps[7]? = some (.slice (some ⟨g, 0, none⟩) l.length cap) := flow_dep hdep 3 7 (by kernel_rfl) rfl
      have e8 : a.tmps[8]? = some (.int .i64 (k : Int)) := flow_dep hdep 4 8 (by kernel_rfl) rfl
      clear hout hdep
      refine op_list (by rfl) ?_
      go_wp2
      exact withK_intro ⟨_, rfl, Below.refl _ _, HR.out, rfl⟩
    · have HR := Lib.hid hR
      clear hR
      have e14 : a.tmps[14]? = some (.pointer (some ⟨g, k * 3, none⟩)) := flow_dep hdep 10 14 (by kernel_rfl) rfl
      clear hout hdep
      refine op_list (by rfl) ?_
      go_wp2
      exact withK_intro ⟨_, rfl, Below.refl _ _, HR.out, rfl⟩
  case hl0 =>
    intro vs wx hR hφ
    have HR := Lib.hid hR
    clear hR
    rw [fill_congr _ [4, 5, 6, 7, 8, 9, 10, 11, 12, 13, 14, 15] vs (fun j => ([.pointer (some ⟨wb, 0, none⟩), .pointer (some ⟨wb, 0, none⟩), .pointer (some ⟨wb, 5, none⟩), .slice (some ⟨g, 0, none⟩) l.length cap, .int .i64 (k : Int), .pointer (some ⟨wb, 0, none⟩), .pointer (some ⟨wb, 0, none⟩), .pointer (some ⟨wb, 5, none⟩), .slice (some ⟨g, 0, none⟩) l.length cap, .int .i64 l.length, .pointer (some ⟨g, k * 3, none⟩), .pointer (some ⟨g, k * 3 + 1, none⟩)] : List Value).getD j undef) (fun j hj => hφ j hj)]
    clear hφ vs
    refine op_list (by rfl) ?_
    simp only [fill, fillA, List.getD_cons_zero, List.getD_cons_succ, Nat.reduceAdd]
    have d0 := (HR.out.cell (p := ⟨g, k * 3 + 1, none⟩) (lt_of_cell hD0.out)).trans hD0.out
    have d1 := (HR.out.frozen (p := ⟨g, k * 3 + 1, none⟩) (lt_of_cell hD0.out)).trans hD1.out
    go_wp2_with fail
    refine withK_intro ?_
    go_wp2
    go_end0
    have hbx := (HR.out.block wb hlt).trans HBX.out
    have hox := HO.out.kept (grown_of_below HR.out) (by simp [Value.ownBlock])
    have hkk := hk
    refine ⟨rfl, (Wk.of_below hn HR.out).trans ⟨(Below.refl _ _).setCell (p := ⟨g, k * 3 + 1, none⟩) hg _, fun i o hi hne ho' => ?_⟩, hge, .slice (some ⟨g, 0, none⟩) l.length cap, ?_, ?_⟩
    · rw [Below.heap_setCell _ _ _ i (fun e => ?_)]
      · exact hi
      · have hgx := (HR.out.block g (lt_of_heap HH.out)).trans HH.out
        have e' : i = g := e
        rw [e', hgx] at hi
        exact ho' _ _ (Option.some.inj hi).symm
    · rw [Below.heap_setCell _ _ _ wb HNE.out]; exact hbx
    · have := own_set hox (k * 3 + 1) (.int .i64 l.length)
      rw [insR_set l k hkk] at this
      rw [landV_length]; exact this
  case hr0 => exact (Below.refl _ _).drew
end Go.Proofs.YthjjcmmonjajhaaDoor
