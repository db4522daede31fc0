/- tree.Right: what is wrong with a program. -/
import Derived.Test.YthjjcmmonjajhaaDoorTreeDepth
import Derived.Test.YthjjcmmonjajhaaDoorTreeHead
namespace Go.Proofs.YthjjcmmonjajhaaDoor
open Go.RowKit Go.Sort Go.Shelf
set_option linter.unusedVariables false
attribute [local go_sem] Oper.semAt_some

def AllR (pre : Ns) (b : Bool) : Prop := pre.all (·.1) = b
theorem heap_new2 (w : World) (o o' : Obj) : ((w.alloc o).alloc o').heap[w.heap.size + 1]? = some o' := by
  have := World.alloc_heap_new (w.alloc o) o'
  rwa [World.size_alloc] at this
theorem right_bad {p : PT} (h : p.headsB = false) : p.right = 1 := by unfold PT.right; rw [h]; rfl
set_option maxRecDepth 100000 in
set_option maxHeartbeats 4000000 in
theorem right_many (a1 a2 : Option Addr) (n1 n2 k1 k2 : Nat) (w : World) (hm : 32 < n1) :
    Calls Tryd.prog 13 #[.agg #[.slice a1 n1 k1, .slice a2 n2 k2]] w fun e W' => e = .returned (.int .i64 1) ∧ Below w.heap.size w W' := by
  have hm' : (32 : Int) < n1 := by omega
  go_enter Tryd.func13, Tryd.ntmps13
  go_wp2
  exact bodyPost_ret (v := .int .i64 1) (by simp [results, Tryd.f13, go_sem]) rfl ⟨rfl, (((Below.refl _ _).alloc (Nat.le_refl _) _).alloc (by simp) _)⟩
set_option maxRecDepth 100000 in
set_option maxHeartbeats 4000000 in
theorem right_some (a1 a2 : Option Addr) (n1 n2 k1 k2 : Nat) (l : List FT) (w : World) (hm : n1 ≤ 32) (hq : l.any (fun f => !f.headB) = true) (h : FSl w (.slice a1 n1 k1) l) :
    Calls Tryd.prog 13 #[.agg #[.slice a1 n1 k1, .slice a2 n2 k2]] w fun e W' => e = .returned (.int .i64 1) ∧ Below w.heap.size w W' := by
  have hm' : decide ((32 : Int) < n1) = false := decide_eq_false (by omega)
  have HQ := Lib.hid hq
  have HH := Lib.hid h
  clear hq h
  have HB := hb_start w
  go_enter Tryd.func13, Tryd.ntmps13
  go_wp2_with (go_at_call 23; refine (contf_r _ _ _ l _ HQ.out _ (HH.out.stay (((Below.refl _ _).alloc (Nat.le_refl _) _).alloc (by simp) _))).mono ?_; rintro e w' ⟨rfl, hb⟩; have HB2 : Hid (Below w.heap.size w w') := hb_step (by repeat (first | exact HB | refine hb_drew ?_ | refine hb_alloc ?_ _)) hb; have bR : Boxed w' (w.heap.size + 1) 30 (.int .i64 0) := (hb.block (w.heap.size + 1) (by simp)).trans (heap_new2 _ _ _); have c5 := bR.cell; have f5 := bR.frozen; clear hb)
  have c6 := (bR.set (.int .i64 1)).cell
  exact bodyPost_ret (v := .int .i64 1) (by simp [results, Tryd.f13, go_sem, c6]) rfl ⟨rfl, HB2.out.setCell (p := ⟨w.heap.size + 1, 0, none⟩) (by simp) _⟩
set_option maxRecDepth 100000 in
set_option maxHeartbeats 4000000 in
theorem right_in (a1 a2 : Option Addr) (n1 n2 k1 k2 : Nat) (p : PT) (w : World) (ht : Tab w) (hp : PR w (.slice a1 n1 k1) (.slice a2 n2 k2) p) (hm : n1 ≤ 32) (hq : p.funcs.any (fun f => !f.headB) = false) (r : Int) (hr : (if p.nodes.all (·.1) then (if 64 < p.depth then 3 else 0) else 1) = r) :
    Calls Tryd.prog 13 #[.agg #[.slice a1 n1 k1, .slice a2 n2 k2]] w fun e W' => e = .returned (.int .i64 r) ∧ Below w.heap.size w W' := by
  have hm' : decide ((32 : Int) < n1) = false := decide_eq_false (by omega)
  have HQ := Lib.hid hq
  have HR := Lib.hid hr
  have HT := Lib.hid ht
  have HP := Lib.hid hp
  clear hr ht hp hq
  have HB := hb_start w
  refine callsIn_wide (n := 6).1 ?_
  refine callsIn_of_wp_marks Tryd.func13 rfl trivial ?_ rfl
  simp only [Tryd.ntmps13, List.size_toArray, List.length_cons, List.length_nil, Nat.reduceAdd, Nat.reduceSub, Array.replicate_succ, Array.replicate_zero, List.push_toArray, List.append_toArray, List.nil_append, List.cons_append]
  gi_wp2_with (first
    | ((first | refine ⟨trivial, ?_⟩ | skip); gi_at_call 23; refine (callsIn_wide.2 (contf_r _ _ _ p.funcs _ HQ.out _ (HP.out.1.stay (((Below.refl _ _).alloc (Nat.le_refl _) _).alloc (by simp) _)))).mono ?_; rintro e W1 ⟨rfl, hb⟩
       have hK1 : Keep w.heap.size (w.heap.size + 1) w W1 := (((Keep.refl _ _ w).alloc (Nat.le_refl _) _).alloc (by simp) _).trans (.of (by simp; omega) hb)
       have hz1 : w.heap.size + 1 < W1.heap.size := Nat.lt_of_lt_of_le (by simp) hb.size
       have bR : Boxed W1 (w.heap.size + 1) 30 (.int .i64 0) := (hb.block (w.heap.size + 1) (by simp)).trans (heap_new2 _ _ _)
       have p0 : W1.cell? ⟨w.heap.size, 0, none⟩ = some (.slice a1 n1 k1) := (hb.cell (p := ⟨w.heap.size, 0, none⟩) (by simp; omega)).trans (by simp)
       have p1 : W1.cell? ⟨w.heap.size, 1, none⟩ = some (.slice a2 n2 k2) := (hb.cell (p := ⟨w.heap.size, 1, none⟩) (by simp; omega)).trans (by simp)
       clear hb)
    | ((first | refine ⟨trivial, ?_⟩ | skip); gi_at_call 26; refine (nodes_in _ _ _ _ _ _ _ _).mono ?_; rintro e w' ⟨rfl, rfl⟩))
  have hp0 := World.alloc_heap_new W1 (.cells #[.slice a1 n1 k1, .slice a2 n2 k2] 25)
  have q0 := (((Below.refl W1.heap.size W1).alloc (Nat.le_refl _) (.cells #[.slice a1 n1 k1, .slice a2 n2 k2] 25)).cell (p := ⟨w.heap.size, 0, none⟩) (by show w.heap.size < _; omega)).trans p0
  have q1 := (((Below.refl W1.heap.size W1).alloc (Nat.le_refl _) (.cells #[.slice a1 n1 k1, .slice a2 n2 k2] 25)).cell (p := ⟨w.heap.size, 1, none⟩) (by show w.heap.size < _; omega)).trans p1
  have bN := bR.alloc (.cells #[.slice a1 n1 k1, .slice a2 n2 k2] 25)
  have hK0 : Keep w.heap.size (w.heap.size + 1) w (W1.alloc (.cells #[.slice a1 n1 k1, .slice a2 n2 k2] 25)) := hK1.alloc (by omega) _
  have hsz : (W1.alloc (.cells #[.slice a1 n1 k1, .slice a2 n2 k2] 25)).heap.size = W1.heap.size + 1 := by simp
  obtain ⟨Bp, hBp⟩ : ∃ Bp, W1.heap.size = Bp := ⟨_, rfl⟩
  obtain ⟨W0, hW0⟩ : ∃ W0, W1.alloc (.cells #[.slice a1 n1 k1, .slice a2 n2 k2] 25) = W0 := ⟨_, rfl⟩
  rw [hBp] at hp0 hsz hz1 ⊢
  rw [hW0] at bN hp0 hK0 hsz q0 q1 ⊢
  clear hW0 hBp hK1 bR p0 p1
  have c0 : W0.cell? ⟨Bp, 0, none⟩ = some (.slice a1 n1 k1) := by simp [World.cell?, hp0]
  have c1 : W0.cell? ⟨Bp, 1, none⟩ = some (.slice a2 n2 k2) := by simp [World.cell?, hp0]
  clear hp0
  obtain ⟨dd, hdd⟩ : ∃ dd, p.depth = dd := ⟨_, rfl⟩
  have HDD := Lib.hid hdd
  clear hdd
  refine wpIn_rangeFunc_ownH rfl (by decide) (gf := 44) (lb := #[.pointer (some ⟨Bp, 0, none⟩)]) rfl trivial (enters_of Tryd.func44 (by kernel_rfl) rfl)
    (nodes_stops _ Bp w.heap.size (w.heap.size + 1) _ _ p w W0 HT.out rfl (by omega) HP.out hK0 (by omega) (by omega) c0 c1) (fun h k => Keep.trans h k) (keep_b (by omega)) (Below.refl _ _) (fun _ => rfl)
    (fun pre W => (AllR pre true ∧ Boxed W (w.heap.size + 1) 30 (.int .i64 0) ∧ W.cell? ⟨w.heap.size, 0, none⟩ = some (.slice a1 n1 k1) ∧ W.cell? ⟨w.heap.size, 1, none⟩ = some (.slice a2 n2 k2)) ∧ Below w.heap.size w W)
    (fun c pre W => (c = .ret ∧ AllR pre false ∧ Boxed W (w.heap.size + 1) 30 (.int .i64 1)) ∧ Below w.heap.size w W)
    (OwnFrom.and (Own.from (fun s X Y row hs hg hr => ⟨hs.1, boxed_own _ _ (fun _ => Value.int .i64 0) s X Y row hs.2.1 hg hr, cell_kept hs.2.2.1 hg hr, cell_kept hs.2.2.2 hg hr⟩) _) (ownFrom_below (Nat.le_refl _) (by omega)))
    (fun c => OwnFrom.and (Own.from (fun s X Y row hs hg hr => ⟨hs.1, hs.2.1, boxed_own _ _ (fun _ => Value.int .i64 1) s X Y row hs.2.2 hg hr⟩) _) (ownFrom_below (Nat.le_refl _) (by omega)))
    ⟨⟨(rfl : ([] : Ns).all (·.1) = true), bN, q0, q1⟩, hK0.1⟩
    (fun x a' W => ∃ Bx, w.heap.size + 1 < Bx ∧ (W.cell? ⟨Bx, 0, none⟩ = some (.bool x.1) ∧ W.cell? ⟨Bx, 1, none⟩ = some (.int .i64 x.2)) ∧ a' = { tmps := #[.agg #[.slice a1 n1 k1, .slice a2 n2 k2], .pointer (some ⟨w.heap.size, 0, none⟩), .pointer (some ⟨w.heap.size + 1, 0, none⟩), .pointer (some ⟨Bx, 0, none⟩), .pointer (some ⟨w.heap.size, 0, none⟩), .slice a1 n1 k1, .int .i64 n1, .bool false, .bool false, .pointer (some ⟨w.heap.size, 0, none⟩), .slice a1 n1 k1, .bool false, .bool false, .agg #[.slice a1 n1 k1, .slice a2 n2 k2], .func (.func 44) #[] #[.pointer (some ⟨Bp, 0, none⟩)], nodeV x, undef, undef, undef, undef, undef, undef], defers := [] })
    (fun x a' _ X Y row hs hg hr => by obtain ⟨Bx, h1, h2, h3⟩ := hs; exact ⟨Bx, h1, ⟨cell_kept h2.1 hg (fun r e => (hr r e).2), cell_kept h2.2 hg (fun r e => (hr r e).2)⟩, h3⟩)
    ?assign ?body ?done ?stop
  case assign =>
    rintro l pre ⟨x, d⟩ W K ⟨⟨hal, bS1, r0, r1⟩, hB1⟩ hK
    dsimp only [nodeV]
    gi_wp2
    exact hK _ _ ((KeepsOthers.alloc _ _).from _) ((Keep.refl _ _ _).alloc hB1.size _) ⟨⟨hal, bS1.alloc _, (((Below.refl W.heap.size W).alloc (Nat.le_refl _) _).cell (p := ⟨w.heap.size, 0, none⟩) (lt_of_cell r0)).trans r0, (((Below.refl W.heap.size W).alloc (Nat.le_refl _) _).cell (p := ⟨w.heap.size, 1, none⟩) (lt_of_cell r1)).trans r1⟩, hB1.alloc hB1.size _⟩ ⟨W.heap.size, bS1.lt, ⟨by simp, by simp⟩, rfl⟩
  case body =>
    rintro l pre ⟨x, d⟩ a' W hl ⟨r, hr⟩ ⟨⟨HAL, bS1, r0, r1⟩, hB1⟩ ⟨Bx, hBx, ⟨c2, c3⟩, rfl⟩ hlt
    have c4 := bS1.cell
    have f4 := bS1.frozen
    cases x
    · gi_wp2
      exact ⟨(KeepsOthers.setCell _ _ _).from _, ⟨rfl, (by show List.all _ _ = false; rw [List.all_append]; simp), bS1.set _⟩, hB1.setCell (p := ⟨w.heap.size + 1, 0, none⟩) (by simp) _⟩
    · gi_wp2
      exact ⟨KeepsFrom.refl _ _, Keep.refl _ _ _, ⟨(by show List.all _ _ = true; rw [List.all_append, show List.all _ _ = true from HAL]; rfl), bS1, r0, r1⟩, hB1⟩
  case done =>
    rintro D ys W hD rfl ⟨⟨HAL, bS1, r0, r1⟩, hB1⟩ hK
    have HK := Lib.hid hK
    have HB1 := Lib.hid hB1
    clear hK
    by_cases h64 : 64 < dd
    rotate_left 1
    have h64' : decide (64 < dd) = false := decide_eq_false h64
    clear h64
    rotate_left 1
    all_goals
      gi_wp2_with ((first | refine ⟨trivial, by decide, ?_⟩ | refine ⟨trivial, ?_⟩ | skip); gi_at_call 27; refine (callsIn_wide.2 (depth_r a1 a2 n1 n2 k1 k2 p _ (HT.out.below HB1.out) (HP.out.stay HB1.out) _ HDD.out)).mono ?_; rintro e W2 ⟨rfl, hb⟩; have bS2 : Boxed W2 (w.heap.size + 1) 30 (.int .i64 0) := (hb.block _ bS1.lt).trans bS1; have HK2 : Hid (W2.heap[D]? = some (.deferred (some []))) := (hb.block _ (Array.getElem?_eq_some_iff.1 HK.out).1).trans HK.out; have HB2 : Hid (Below w.heap.size w W2) := hb_step HB1 hb; have c4 := bS2.cell; have f4 := bS2.frozen; clear hb)
    · have hK' := (KeepsOthers.setCell W2 ⟨w.heap.size + 1, 0, none⟩ (.int .i64 3)).same D _ HK2.out rfl
      refine ⟨by simp, .inl ⟨_, _, rfl, run_takeDeferred hK', ?_⟩⟩
      have hc5 := cell_kept (bS2.set (.int .i64 3)).cell (grownBy_putObj' _ D (.deferred none)) (fun r e => by cases e; exact ⟨_, hK', rfl⟩)
      refine ⟨.int .i64 3, ?_, by rw [← HR.out, show List.all _ _ = true from HAL, if_pos rfl, HDD.out, if_pos h64], (HB2.out.setCell (p := ⟨w.heap.size + 1, 0, none⟩) (by simp) _).trans (belowK_b (w := w) (Nat.le_refl _) _ D _ _ (by omega) hK' rfl rfl)⟩
      simp [results, Tryd.f13, go_sem, hc5]
    · have hK' := (KeepsOthers.setCell W2 ⟨w.heap.size + 1, 0, none⟩ (.int .i64 0)).same D _ HK2.out rfl
      refine ⟨by simp, .inl ⟨_, _, rfl, run_takeDeferred hK', ?_⟩⟩
      have hc5 := cell_kept (bS2.set (.int .i64 0)).cell (grownBy_putObj' _ D (.deferred none)) (fun r e => by cases e; exact ⟨_, hK', rfl⟩)
      refine ⟨.int .i64 0, ?_, by rw [← HR.out, show List.all _ _ = true from HAL, if_pos rfl, HDD.out, if_neg (of_decide_eq_false h64')], (HB2.out.setCell (p := ⟨w.heap.size + 1, 0, none⟩) (by simp) _).trans (belowK_b (w := w) (Nat.le_refl _) _ D _ _ (by omega) hK' rfl rfl)⟩
      simp [results, Tryd.f13, go_sem, hc5]
  case stop =>
    rintro D c pre W hD hpre ⟨⟨rfl, hin, bS1⟩, hB1⟩ hK
    gi_wp2
    refine ⟨by simp, .inl ⟨_, _, rfl, run_takeDeferred hK, ?_⟩⟩
    have hc5 := cell_kept bS1.cell (grownBy_putObj' _ D (.deferred none)) (fun r e => by cases e; exact ⟨_, hK, rfl⟩)
    have hall : p.nodes.all (·.1) = false := by
      obtain ⟨t, ht⟩ := hpre
      rw [← ht, List.all_append, show List.all _ _ = false from hin]; rfl
    refine ⟨.int .i64 1, ?_, by rw [← HR.out, hall]; rfl, hB1.trans (belowK_b (w := w) (Nat.le_refl _) W D _ _ (by omega) hK rfl rfl)⟩
    simp [results, Tryd.f13, go_sem, hc5]

/-- tree.Right, whatever the program. -/
theorem right_r (a1 a2 : Option Addr) (n1 n2 k1 k2 : Nat) (p : PT) (w : World) (ht : Tab w) (hp : PR w (.slice a1 n1 k1) (.slice a2 n2 k2) p) (r : Int) (hr : p.right = r) :
    Calls Tryd.prog 13 #[.agg #[.slice a1 n1 k1, .slice a2 n2 k2]] w fun e W' => e = .returned (.int .i64 r) ∧ Below w.heap.size w W' := by
  have hl : n1 = p.funcs.length := by
    obtain ⟨h, _⟩ := hp
    generalize hv : Value.slice a1 n1 k1 = v at h
    cases h; cases hv; rfl
  subst hr
  by_cases hm : n1 ≤ 32
  · cases hq : p.funcs.any (fun f => !f.headB) with
    | true =>
      rw [right_bad (by unfold PT.headsB; rw [hq]; simp)]
      exact right_some a1 a2 n1 n2 k1 k2 p.funcs w hm hq hp.1
    | false =>
      refine right_in a1 a2 n1 n2 k1 k2 p w ht hp hm hq _ ?_
      unfold PT.right PT.headsB
      rw [hq, decide_eq_true (hl ▸ hm)]; rfl
  · rw [right_bad (by unfold PT.headsB; rw [decide_eq_false (by omega)]; rfl)]
    exact right_many a1 a2 n1 n2 k1 k2 w (by omega)
end Go.Proofs.YthjjcmmonjajhaaDoor
