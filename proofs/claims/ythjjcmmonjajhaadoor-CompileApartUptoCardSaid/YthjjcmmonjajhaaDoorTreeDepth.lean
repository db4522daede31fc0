/- tree.Depth, tree.Size: how deep, how large. -/
import Derived.Test.YthjjcmmonjajhaaDoorTreeSeq
namespace Go.Proofs.YthjjcmmonjajhaaDoor
open Go.RowKit Go.Sort Go.Shelf
set_option linter.unusedVariables false
attribute [local go_sem] Oper.semAt_some

theorem keep_set {n₀ B : Nat} (hB : n₀ ≤ B) (W : World) (v : Value) : Keep n₀ B W (W.setCell ⟨B, 0, none⟩ v) :=
  ⟨(Below.refl _ _).setCell (p := ⟨B, 0, none⟩) hB _, fun k o u hk h => (grownBy_setCell' W B v).cell h (fun e => hk (by cases e; rfl))⟩

set_option maxRecDepth 100000 in
set_option maxHeartbeats 4000000 in
theorem depth_r (a1 a2 : Option Addr) (n1 n2 k1 k2 : Nat) (p : PT) (w : World) (ht : Tab w) (hp : PR w (.slice a1 n1 k1) (.slice a2 n2 k2) p) (r : Int) (hr : p.depth = r) :
    Calls Tryd.prog 27 #[.agg #[.slice a1 n1 k1, .slice a2 n2 k2]] w fun e W' => e = .returned (.int .i64 r) ∧ Below w.heap.size w W' := by
  have HR := Lib.hid hr
  have HT := Lib.hid ht
  have HP := Lib.hid hp
  clear hr ht hp
  refine callsIn_wide (n := 6).1 ?_
  refine callsIn_of_wp_marks Tryd.func27 rfl trivial ?_ rfl
  simp only [Tryd.ntmps27, List.size_toArray, List.length_cons, List.length_nil, Nat.reduceAdd, Nat.reduceSub, Array.replicate_succ, Array.replicate_zero, List.push_toArray, List.append_toArray, List.nil_append, List.cons_append]
  gi_wp2_with ((first | refine ⟨trivial, ?_⟩ | skip); gi_at_call 26; refine (nodes_in _ _ _ _ _ _ _ _).mono ?_; rintro e w' ⟨rfl, rfl⟩)
  have bN := (Boxed.new (w.alloc (.cells #[.slice a1 n1 k1, .slice a2 n2 k2] 25)) 3 (.int .i64 0)).alloc (.cells #[.slice a1 n1 k1, .slice a2 n2 k2] 25)
  have hp0 := World.alloc_heap_new ((w.alloc (.cells #[.slice a1 n1 k1, .slice a2 n2 k2] 25)).alloc (.cells #[.int .i64 0] 3)) (.cells #[.slice a1 n1 k1, .slice a2 n2 k2] 25)
  simp only [World.size_alloc] at bN hp0
  have hK0 : Keep w.heap.size (w.heap.size + 1) w (((w.alloc (.cells #[.slice a1 n1 k1, .slice a2 n2 k2] 25)).alloc (.cells #[.int .i64 0] 3)).alloc (.cells #[.slice a1 n1 k1, .slice a2 n2 k2] 25)) := (((Keep.refl _ _ w).alloc (Nat.le_refl _) _).alloc (by simp) _).alloc (by simp; omega) _
  have hsz : (((w.alloc (.cells #[.slice a1 n1 k1, .slice a2 n2 k2] 25)).alloc (.cells #[.int .i64 0] 3)).alloc (.cells #[.slice a1 n1 k1, .slice a2 n2 k2] 25)).heap.size = w.heap.size + 3 := by simp
  obtain ⟨W0, hW0⟩ : ∃ W0, ((w.alloc (.cells #[.slice a1 n1 k1, .slice a2 n2 k2] 25)).alloc (.cells #[.int .i64 0] 3)).alloc (.cells #[.slice a1 n1 k1, .slice a2 n2 k2] 25) = W0 := ⟨_, rfl⟩
  rw [hW0] at bN hp0 hK0 hsz ⊢
  clear hW0
  have c0 : W0.cell? ⟨w.heap.size + 1 + 1, 0, none⟩ = some (.slice a1 n1 k1) := by simp [World.cell?, hp0]
  have c1 : W0.cell? ⟨w.heap.size + 1 + 1, 1, none⟩ = some (.slice a2 n2 k2) := by simp [World.cell?, hp0]
  clear hp0
  refine wpIn_rangeFunc_ownH rfl (by decide) (gf := 44) (lb := #[.pointer (some ⟨w.heap.size + 1 + 1, 0, none⟩)]) rfl trivial (enters_of Tryd.func44 (by kernel_rfl) rfl)
    (nodes_stops _ (w.heap.size + 1 + 1) w.heap.size (w.heap.size + 1) _ _ p w W0 HT.out rfl (by omega) HP.out hK0 (by omega) (by omega) c0 c1) (fun h k => Keep.trans h k) (keep_b (by omega)) (Below.refl _ _) (fun _ => rfl)
    (fun pre W => Boxed W (w.heap.size + 1) 3 (.int .i64 (depthF pre)) ∧ Below w.heap.size w W)
    (fun _ _ _ => False)
    (OwnFrom.and (Own.from (boxed_own _ _ _) _) (ownFrom_below (Nat.le_refl _) (by omega)))
    (fun _ _ _ _ _ hs _ _ => hs)
    ⟨bN, hK0.1⟩
    (fun x a' W => ∃ Bx, w.heap.size + 1 < Bx ∧ (W.cell? ⟨Bx, 0, none⟩ = some (.bool x.1) ∧ W.cell? ⟨Bx, 1, none⟩ = some (.int .i64 x.2)) ∧ a' = { tmps := #[.agg #[.slice a1 n1 k1, .slice a2 n2 k2], .pointer (some ⟨w.heap.size, 0, none⟩), .int .i64 0, .pointer (some ⟨w.heap.size + 1, 0, none⟩), .pointer (some ⟨Bx, 0, none⟩), .agg #[.slice a1 n1 k1, .slice a2 n2 k2], .func (.func 44) #[] #[.pointer (some ⟨w.heap.size + 1 + 1, 0, none⟩)], nodeV x, undef, undef, undef, undef, undef], defers := [] })
    (fun x a' _ X Y row hs hg hr => by obtain ⟨Bx, h1, h2, h3⟩ := hs; exact ⟨Bx, h1, ⟨cell_kept h2.1 hg (fun r e => (hr r e).2), cell_kept h2.2 hg (fun r e => (hr r e).2)⟩, h3⟩)
    ?assign ?body ?done ?stop
  case assign =>
    rintro l pre ⟨x, d⟩ W K ⟨bS1, hB1⟩ hK
    dsimp only [nodeV]
    gi_wp2
    exact hK _ _ ((KeepsOthers.alloc _ _).from _) ((Keep.refl _ _ _).alloc hB1.size _) ⟨bS1.alloc _, hB1.alloc hB1.size _⟩ ⟨W.heap.size, bS1.lt, ⟨by simp, by simp⟩, rfl⟩
  case body =>
    rintro l pre ⟨x, d⟩ a' W hl ⟨r, hr⟩ ⟨bS1, hB1⟩ ⟨Bx, hBx, ⟨c2, c3⟩, rfl⟩ hlt
    have c4 := bS1.cell
    have f4 := bS1.frozen
    gi_wp2
    all_goals
      refine ⟨(KeepsOthers.setCell _ _ _).from _, keep_set (by omega) _ _, ?_, hB1.setCell (p := ⟨w.heap.size + 1, 0, none⟩) (by simp) _⟩
      rw [depthF_snoc]
      first | (rw [Int.max_eq_left (by assumption)]; exact bS1.set _) | (rw [Int.max_eq_right (by omega)]; exact bS1.set _)
  case done =>
    rintro D ys W hD rfl ⟨bS1, hB1⟩ hK
    have c4 := bS1.cell
    gi_wp2
    refine ⟨by simp, .inl ⟨_, _, rfl, run_takeDeferred hK, ?_⟩⟩
    refine ⟨_, results_tmp rfl _ _ _, by rw [← HR.out]; rfl, hB1.trans (belowK_b (w := w) (Nat.le_refl _) W D _ _ (by omega) hK rfl rfl)⟩
  case stop =>
    rintro D c pre W _ _ h _
    exact h.elim
end Go.Proofs.YthjjcmmonjajhaaDoor
