/- verify's right: is a function? -/
import Derived.Test.YthfgagljplabpaaDoorVerifyHead
import Derived.Test.YthfgagljplabpaaDoorVerifyLoop
import Derived.RegionTactic
import Derived.BigRegion
namespace Go.Proofs.YthfgagljplabpaaDoor.V
open Go.RowKit Go.Sort Go.Maps Go.Conc
set_option linter.unusedVariables false

theorem infoInt : (Tryd.prog.info? 3).map (fun i => (i.zero, i.size, i.bytes)) = some (some (.int .i64 0), 1, 8) := by kernel_rfl
theorem make_chan (n : Nat) (hn : n ≤ 17592186044416) (W : World) : (Instr.makeChan 68 (.int .i64 n)).run Tryd.prog W = .ok (.chan (some W.heap.size)) (W.alloc (.chan n #[] false 0 0 false)) := by
  obtain ⟨i, hi, h0, h1, h2⟩ := info_parts infoInt
  exact run_makeChan Tryd.underlying68 hi .i64 n (by omega) (by rw [h2]; omega)

theorem unseen_none (n : Nat) : unseen (fun _ => none) n = n := by
  unfold unseen
  rw [List.countP_eq_length.2 (by intro _ _; rfl)]
  simp
theorem start_ok (n : Nat) : startV.ok n := ⟨by simp [startV, unseen_none], fun k hk => by simp [startV] at hk⟩
/-- A looker as it is made: the box of the function, the map and the channel, in either order, the looker. -/
theorem looks_made (w W : World) (bm bc : Nat) (fs : List VF) (f : VF) (fv lv : Value) (ht : Tab w) (hfs : VSl w fv fs) (hl : ISl w lv f.l) (hb : Below w.heap.size w W) (hbm : w.heap.size ≤ bm) (hbc : w.heap.size ≤ bc)
    (hm : W.heap[bm]? = some (.map #[] 0)) (hc : W.heap[bc]? = some (.chan f.l.length #[] false 0 0 false)) :
    Looks w ((W.alloc (.cells #[fv, .string f.name, .int .i64 f.params, .int .i64 f.vars, .int .i64 f.arrays, lv, .map (some bm), .chan (some bc)] 70)).drew) W.heap.size bm bc fs f fv lv startV := by
  have hA : Below W.heap.size W (W.alloc (.cells #[fv, .string f.name, .int .i64 f.params, .int .i64 f.vars, .int .i64 f.arrays, lv, .map (some bm), .chan (some bc)] 70)) := (Below.refl _ _).alloc (Nat.le_refl _) _
  exact {
    tab := ht
    rfs := hfs
    rl := hl
    below := (hb.trans (hA.mono hb.size)).drew
    geB := hb.size
    gem := hbm
    gec := hbc
    box := heap_alloc_new W _
    map := ⟨0, ⟨.map [], ⟨#[], 0, (hA.block bm (lt_of_heap hm)).trans hm, ⟨by simp, Go.MapKept.stamped_empty 0, by simp⟩, Nat.le_refl _, rfl⟩, mapIs_empty⟩, by rw [show startV.dep = fun _ => none from rfl, unseen_none]; omega⟩
    chan := ⟨0, 0, (hA.block bc (lt_of_heap hc)).trans hc⟩
    ok := start_ok _ }
theorem made1 (w : World) (fs : List VF) (f : VF) (fv lv : Value) (ht : Tab w) (hfs : VSl w fv fs) (hl : ISl w lv f.l) :
    Looks w ((((w.alloc (.cells #[.string f.name, .int .i64 f.params, .int .i64 f.vars, .int .i64 f.arrays, lv] 27)).alloc (.map #[] 0)).alloc (.chan f.l.length #[] false 0 0 false)).alloc (.cells #[fv, .string f.name, .int .i64 f.params, .int .i64 f.vars, .int .i64 f.arrays, lv, .map (some (w.heap.size + 1)), .chan (some (w.heap.size + 1 + 1))] 70)).drew (w.heap.size + 1 + 1 + 1) (w.heap.size + 1) (w.heap.size + 1 + 1) fs f fv lv startV := by
  have h1 : ((w.alloc (.cells #[.string f.name, .int .i64 f.params, .int .i64 f.vars, .int .i64 f.arrays, lv] 27)).alloc (.map #[] 0)).heap[w.heap.size + 1]? = some (.map #[] 0) := by
    have := heap_alloc_new (w.alloc (.cells #[.string f.name, .int .i64 f.params, .int .i64 f.vars, .int .i64 f.arrays, lv] 27)) (.map #[] 0)
    rwa [World.size_alloc] at this
  have h2 := heap_alloc_new ((w.alloc (.cells #[.string f.name, .int .i64 f.params, .int .i64 f.vars, .int .i64 f.arrays, lv] 27)).alloc (.map #[] 0)) (.chan f.l.length #[] false 0 0 false)
  rw [World.size_alloc, World.size_alloc] at h2
  have h1' : (((w.alloc (.cells #[.string f.name, .int .i64 f.params, .int .i64 f.vars, .int .i64 f.arrays, lv] 27)).alloc (.map #[] 0)).alloc (.chan f.l.length #[] false 0 0 false)).heap[w.heap.size + 1]? = some (.map #[] 0) := (((Below.refl _ _).alloc (Nat.le_refl _) _).block _ (lt_of_heap h1)).trans h1
  have := looks_made w (((w.alloc (.cells #[.string f.name, .int .i64 f.params, .int .i64 f.vars, .int .i64 f.arrays, lv] 27)).alloc (.map #[] 0)).alloc (.chan f.l.length #[] false 0 0 false)) (w.heap.size + 1) (w.heap.size + 1 + 1) fs f fv lv ht hfs hl ((((Below.refl _ _).alloc (Nat.le_refl _) _).alloc (by simp) _).alloc (by simp; omega) _) (by omega) (by omega) h1' h2
  rw [World.size_alloc, World.size_alloc, World.size_alloc] at this
  exact this
theorem made2 (w : World) (fs : List VF) (f : VF) (fv lv : Value) (ht : Tab w) (hfs : VSl w fv fs) (hl : ISl w lv f.l) :
    Looks w ((((w.alloc (.cells #[.string f.name, .int .i64 f.params, .int .i64 f.vars, .int .i64 f.arrays, lv] 27)).alloc (.chan f.l.length #[] false 0 0 false)).alloc (.map #[] 0)).alloc (.cells #[fv, .string f.name, .int .i64 f.params, .int .i64 f.vars, .int .i64 f.arrays, lv, .map (some (w.heap.size + 1 + 1)), .chan (some (w.heap.size + 1))] 70)).drew (w.heap.size + 1 + 1 + 1) (w.heap.size + 1 + 1) (w.heap.size + 1) fs f fv lv startV := by
  have h1 : ((w.alloc (.cells #[.string f.name, .int .i64 f.params, .int .i64 f.vars, .int .i64 f.arrays, lv] 27)).alloc (.chan f.l.length #[] false 0 0 false)).heap[w.heap.size + 1]? = some (.chan f.l.length #[] false 0 0 false) := by
    have := heap_alloc_new (w.alloc (.cells #[.string f.name, .int .i64 f.params, .int .i64 f.vars, .int .i64 f.arrays, lv] 27)) (.chan f.l.length #[] false 0 0 false)
    rwa [World.size_alloc] at this
  have h2 := heap_alloc_new ((w.alloc (.cells #[.string f.name, .int .i64 f.params, .int .i64 f.vars, .int .i64 f.arrays, lv] 27)).alloc (.chan f.l.length #[] false 0 0 false)) (.map #[] 0)
  rw [World.size_alloc, World.size_alloc] at h2
  have h1' : (((w.alloc (.cells #[.string f.name, .int .i64 f.params, .int .i64 f.vars, .int .i64 f.arrays, lv] 27)).alloc (.chan f.l.length #[] false 0 0 false)).alloc (.map #[] 0)).heap[w.heap.size + 1]? = some (.chan f.l.length #[] false 0 0 false) := (((Below.refl _ _).alloc (Nat.le_refl _) _).block _ (lt_of_heap h1)).trans h1
  have := looks_made w (((w.alloc (.cells #[.string f.name, .int .i64 f.params, .int .i64 f.vars, .int .i64 f.arrays, lv] 27)).alloc (.chan f.l.length #[] false 0 0 false)).alloc (.map #[] 0)) (w.heap.size + 1 + 1) (w.heap.size + 1) fs f fv lv ht hfs hl ((((Below.refl _ _).alloc (Nat.le_refl _) _).alloc (by simp) _).alloc (by simp; omega) _) (by omega) (by omega) h2 h1'
  rw [World.size_alloc, World.size_alloc, World.size_alloc] at this
  exact this
theorem mu_start (n : Nat) (st : VS) (h : startV.reach n 0 0 = some st) : st.mu n < 2 * n + 1 := by
  have := (VS.reach_ok h (start_ok n)).2.1
  simp only [VS.mu, startV, unseen_none, List.length_nil] at this
  simp only [VS.mu]
  omega

set_option maxHeartbeats 8000000 in
set_option maxRecDepth 1000000 in
theorem right_main (fs : List VF) (f : VF) (fv lv : Value) (w : World) (ht : Tab w) (hfs : VSl w fv fs) (hl : ISl w lv f.l) (hh : headV f = true) (r : Bool) (hr : rightV fs f = r) :
    Calls Tryd.prog 14 #[fv, .agg #[.string f.name, .int .i64 f.params, .int .i64 f.vars, .int .i64 f.arrays, lv]] w fun e w' => e = .returned (.bool r) ∧ Below w.heap.size w w' := by
  obtain ⟨s, pn, vn, an, l⟩ := f
  have hsm := hl.small
  obtain ⟨a, cap, rfl⟩ := hl.shape
  obtain ⟨af, capf, rfl⟩ := hfs.shape
  have HH := Lib.hid hh
  unfold headV at hh
  dsimp only at hh hl hsm ⊢
  simp only [Bool.and_eq_true, decide_eq_true_eq] at hh
  obtain ⟨h1, h2, h3, h4⟩ := hh
  have H1 := Lib.hid h1
  have H3 := Lib.hid h3
  have H4 := Lib.hid h4
  have HT := Lib.hid ht
  have HFS := Lib.hid hfs
  have HL := Lib.hid hl
  have HR := Lib.hid hr
  have hmm := @run_makeMap Tryd.prog
  have hmc := make_chan l.length hsm
  have hd : decide (vn < pn) = false := decide_eq_false (by omega)
  clear h1 h2 h3 h4 ht hfs hl hr
  refine calls_of_wpN Tryd.func14 rfl ?_
  simp only [Tryd.ntmps14, List.size_toArray, List.length_cons, List.length_nil, Nat.reduceAdd, Nat.reduceSub, Array.replicate_succ, Array.replicate_zero, List.push_toArray, List.append_toArray, List.nil_append, List.cons_append]
  refine wpN_seq_k (fun K hK => ?_)
  go_wp2
  refine wpN_seq_k (fun K hK => ?_)
  go_wp2_with (first | (go_at_call 15; (with_reducible refine (in_r pn 0 9 _ H1.out _).mono ?_); rintro e w' ⟨rfl, rfl⟩) | (go_at_call 15; (with_reducible refine (in_r vn 0 65 _ H3.out _).mono ?_); rintro e w' ⟨rfl, rfl⟩) | (go_at_call 15; (with_reducible refine (in_r an 0 65 _ H4.out _).mono ?_); rintro e w' ⟨rfl, rfl⟩))
  refine wpN_seq_k (fun K hK => ?_)
  go_region
  all_goals
    refine hK _ _ ?_
    clear hK K
    rcases hst : startV.reach l.length 0 0 with _ | st
    · have HST := Lib.hid hst
      have hr := HR.out
      simp only [rightV, hst, Bool.and_false] at hr
      subst hr
      clear hst
      refine wpN_seq_k (fun K hK => ?_)
      go_wp2_with (go_at_call 22; first
        | (refine (reaches_no w _ _ _ _ fs ⟨s, pn, vn, an, l⟩ _ _ startV (made1 w fs ⟨s, pn, vn, an, l⟩ _ _ HT.out HFS.out HL.out) _ _ HST.out).mono ?_; rintro e w4 ⟨rfl, rfl⟩; have HB4 := Lib.hid (made1 w fs ⟨s, pn, vn, an, l⟩ _ _ HT.out HFS.out HL.out).below)
        | (refine (reaches_no w _ _ _ _ fs ⟨s, pn, vn, an, l⟩ _ _ startV (made2 w fs ⟨s, pn, vn, an, l⟩ _ _ HT.out HFS.out HL.out) _ _ HST.out).mono ?_; rintro e w4 ⟨rfl, rfl⟩; have HB4 := Lib.hid (made2 w fs ⟨s, pn, vn, an, l⟩ _ _ HT.out HFS.out HL.out).below))
      go_ret
      exact ⟨rfl, HB4.out⟩
    · have HST := Lib.hid hst
      have hr := HR.out
      have hmu := mu_start l.length st hst
      simp only [rightV, hst] at hr
      have hh : headV ⟨s, pn, vn, an, l⟩ = true := HH.out
      rw [hh, Bool.true_and] at hr
      have HR2 := Lib.hid hr
      have HMU := Lib.hid hmu
      clear hst hr hmu hh
      refine wpN_seq_k (fun K hK => ?_)
      go_wp2_with (go_at_call 22; first
        | (refine (reaches_yes w _ _ _ _ fs ⟨s, pn, vn, an, l⟩ _ _ startV st (made1 w fs ⟨s, pn, vn, an, l⟩ _ _ HT.out HFS.out HL.out) _ _ (by decide) HST.out).mono ?_; rintro e w4 ⟨rfl, hl⟩; have HL4 := Lib.hid hl; clear hl)
        | (refine (reaches_yes w _ _ _ _ fs ⟨s, pn, vn, an, l⟩ _ _ startV st (made2 w fs ⟨s, pn, vn, an, l⟩ _ _ HT.out HFS.out HL.out) _ _ (by decide) HST.out).mono ?_; rintro e w4 ⟨rfl, hl⟩; have HL4 := Lib.hid hl; clear hl))
      exact right_loop w _ _ _ _ fs ⟨s, pn, vn, an, l⟩ _ _ r (2 * l.length + 1) _ ⟨_, st, rfl, rfl, rfl, HL4.out, HR2.out, HMU.out⟩ _ ⟨_, _, _, _, rfl⟩
theorem right_r (fs : List VF) (f : VF) (fv lv : Value) (w : World) (ht : Tab w) (hfs : VSl w fv fs) (hl : ISl w lv f.l) (r : Bool) (hr : rightV fs f = r) :
    Calls Tryd.prog 14 #[fv, .agg #[.string f.name, .int .i64 f.params, .int .i64 f.vars, .int .i64 f.arrays, lv]] w fun e w' => e = .returned (.bool r) ∧ Below w.heap.size w w' := by
  rcases hh : headV f with _ | _
  · have : false = r := by rw [← hr]; unfold rightV; rw [hh]; rfl
    subst this
    exact right_head fv f lv w hh
  · exact right_main fs f fv lv w ht hfs hl hh r hr
end Go.Proofs.YthfgagljplabpaaDoor.V
