/- tree.expr, tree.stmt: an expression, a statement, but for its parts. tree.stmt: a statement but for its parts. tree.below, tree.within: the recursive iterators. tree.within: the recursive iterator over statements. tree.nodes: the iterator over a program's nodes. tree.Depth, tree.Size: how deep, how large. tree.head, and the searches for a wrong one. tree.Right: what is wrong with a program. -/
import Derived.Test.YthjjcmmonjajhaaGreatDoorTrees
import Derived.StillTailTactics
import Derived.Deep.QuietTactic
import Derived.BigQuiet
import Derived.RangeFuncNested
import Derived.RangeFuncBound
import Derived.RangeFuncCalls
import Derived.RangeFuncLeaves
import Derived.RangeFuncFrom
import Derived.Shelf.Abstract
import Derived.Shelf.RegionOpen
import Derived.OwnWalkIn
import Derived.TacticsInMore
import Derived.LoopNIn
import Derived.LoopIn
namespace Go.Proofs.YthjjcmmonjajhaaGreatDoor
open Go.RowKit Go.Sort
set_option linter.unusedVariables false

theorem below_drewN {B : Nat} {a w : World} (h : Below B a w) (n : Nat) : Below B a (w.drewN n) := h.trans ⟨rfl, rfl, rfl, Nat.le_refl _, fun _ _ => rfl⟩
theorem expr_range (i : Nat) (hi : i < 17) : -100 ≤ (exprRow i).2.2.2.1 ∧ (exprRow i).2.2.2.1 ≤ 100 := by
  have key : ∀ i : Fin 17, -100 ≤ (exprRow i.val).2.2.2.1 ∧ (exprRow i.val).2.2.2.1 ≤ 100 := by decide +kernel
  exact key ⟨i, hi⟩

set_option maxHeartbeats 4000000 in
set_option maxRecDepth 1000000 in
theorem expr_in (i : Nat) (h1 : 1 ≤ i) (h2 : i < 17) (n : Int) (s : ByteArray) (a : Option Addr) (len cap : Nat) (b : Bool) (hb : exprFits i s n len = b) (w : World) (ht : Tab w) :
    Calls Tryz.prog 83 #[.agg #[.int .i64 i, .int .i64 n, .string s, .slice a len cap]] w fun e w' => e = .returned (.bool b) ∧ Below w.heap.size w w' := by
  have HB := hb_start w
  obtain ⟨p0, p1⟩ := expr_range i h2
  obtain ⟨c0, c1, c2, c3, c4, c5⟩ := expr_cells ht.1 i h2
  unfold exprFits at hb
  generalize (exprRow i).1 = x0 at hb c0
  generalize (exprRow i).2.1 = x1 at hb c1
  generalize (exprRow i).2.2.1 = x2 at hb c2
  generalize (exprRow i).2.2.2.1 = x3 at hb c3 p0 p1
  generalize (exprRow i).2.2.2.2.1 = x4 at c4
  generalize (exprRow i).2.2.2.2.2 = x5 at c5
  have hz : 3 < w.heap.size := lt_of_cell c0
  have HF := Lib.hid hb
  have HP := Lib.hid (And.intro p0 p1)
  clear hb p0 p1 ht
  have i1 : (1 : Int) ≤ (i : Int) := by omega
  have i2 : (i : Int) < 17 := by omega
  go_enter Tryz.func83, Tryz.ntmps83
  go_wp2
  obtain ⟨W1, hW1⟩ : ∃ W1, W1 = w.alloc (Obj.cells #[Value.int IntKind.i64 (i : Int), Value.int IntKind.i64 n, Value.string s, Value.slice a len cap] 51) := ⟨_, rfl⟩
  obtain ⟨bx, hbx⟩ : ∃ bx, bx = w.heap.size := ⟨_, rfl⟩
  rw [← hW1, ← hbx]
  have d0 : W1.cell? ⟨bx, 0, none⟩ = some (.int .i64 (i : Int)) := by rw [hW1, hbx]; simp
  have d1 : W1.cell? ⟨bx, 1, none⟩ = some (.int .i64 n) := by rw [hW1, hbx]; simp
  have d2 : W1.cell? ⟨bx, 2, none⟩ = some (.string s) := by rw [hW1, hbx]; simp
  have d3 : W1.cell? ⟨bx, 3, none⟩ = some (.slice a len cap) := by rw [hW1, hbx]; simp
  have hb1 : Below w.heap.size w W1 := by rw [hW1]; exact (Below.refl _ _).alloc (Nat.le_refl _) _
  have HB1 := Lib.hid hb1
  rw [← hb1.cell (p := ⟨3, i * 6, none⟩) hz] at c0
  rw [← hb1.cell (p := ⟨3, i * 6 + 1, none⟩) hz] at c1
  rw [← hb1.cell (p := ⟨3, i * 6 + 2, none⟩) hz] at c2
  rw [← hb1.cell (p := ⟨3, i * 6 + 3, none⟩) hz] at c3
  rw [← hb1.cell (p := ⟨3, i * 6 + 4, none⟩) hz] at c4
  rw [← hb1.cell (p := ⟨3, i * 6 + 5, none⟩) hz] at c5
  clear hW1 hbx HB hb1
  have HB2 : Hid (Below w.heap.size w W1.drew) := HB1.out.drew
  go_still_tail 20, (by kernel_rfl)
  change wpList _ _ _ _ _ W1.drew
  clear HB1 c0 c1 c2 c3 c4 c5 d0 d1 d2 d3
  generalize W1.drew = w2 at HB2
  go_wp2_with (go_at_call 82; refine (fits_r _ _ _ _ _ _ _ _ _ HP.out.1 HP.out.2 _ HF.out _).mono ?_; rintro e w' ⟨rfl, hb⟩; have HB3 : Hid (Below w.heap.size w w') := hb_step HB2 hb; clear hb)
  go_ret
  exact ⟨rfl, HB3.out⟩

set_option maxHeartbeats 4000000 in
set_option maxRecDepth 1000000 in
theorem expr_out (o : Int) (h : o < 1 ∨ (1 ≤ o ∧ 17 ≤ o)) (n : Int) (s : ByteArray) (v : Value) (hv : ∃ a len cap, v = .slice a len cap) (w : World) :
    Calls Tryz.prog 83 #[.agg #[.int .i64 o, .int .i64 n, .string s, v]] w fun e w' => e = .returned (.bool false) ∧ Below w.heap.size w w' := by
  obtain ⟨a, len, cap, rfl⟩ := hv
  rcases h with h | ⟨h, h2⟩
  have h3 : decide (1 ≤ o) = false := decide_eq_false (by omega)
  rotate_left 1
  have h3 : decide (o < 17) = false := decide_eq_false (by omega)
  rotate_left 1
  all_goals
    go_enter Tryz.func83, Tryz.ntmps83
    go_wp2
    go_quiet (fail)
    go_wp2
    go_ret
    exact ⟨rfl, below_drewN ((Below.refl _ _).alloc (Nat.le_refl _) _) _⟩
/-- tree.expr, whatever the expression. -/
theorem expr_r (o n : Int) (s : ByteArray) (v : Value) (k : Nat) (hv : ∃ a cap, v = .slice a k cap) (b : Bool) (hb : exprB o n s k = b) (w : World) (ht : Tab w) :
    Calls Tryz.prog 83 #[.agg #[.int .i64 o, .int .i64 n, .string s, v]] w fun e w' => e = .returned (.bool b) ∧ Below w.heap.size w w' := by
  obtain ⟨a, cap, rfl⟩ := hv
  unfold exprB at hb
  by_cases h : 1 ≤ o ∧ o < 17
  · rw [decide_eq_true h, Bool.true_and] at hb
    obtain ⟨i, rfl⟩ : ∃ i : Nat, o = (i : Int) := ⟨o.toNat, by omega⟩
    exact expr_in i (by omega) (by omega) n s a k cap b (by simpa using hb) w ht
  · rw [decide_eq_false h] at hb
    subst hb
    exact expr_out o (by omega) n s _ ⟨_, _, _, rfl⟩ w

end Go.Proofs.YthjjcmmonjajhaaGreatDoor
namespace Go.Proofs.YthjjcmmonjajhaaGreatDoor
open Go.RowKit Go.Sort
set_option linter.unusedVariables false

theorem stmt_range (i : Nat) (hi : i < 10) : -100 ≤ (stmtRow i).2.2.2.1 ∧ (stmtRow i).2.2.2.1 ≤ 100 := by
  have key : ∀ i : Fin 10, -100 ≤ (stmtRow i.val).2.2.2.1 ∧ (stmtRow i.val).2.2.2.1 ≤ 100 := by decide +kernel
  exact key ⟨i, hi⟩
theorem or_cases (x : Bool) (k : Nat) : (x = true ∧ (x || decide (k = 0)) = true) ∨ (x = false ∧ k = 0 ∧ (x || decide (k = 0)) = true) ∨ (x = false ∧ ((k : Int) == 0) = false ∧ (x || decide (k = 0)) = false) := by
  cases x
  · by_cases h : k = 0
    · subst h; simp
    · right; right; refine ⟨rfl, ?_, ?_⟩ <;> simp <;> omega
  · simp

set_option maxHeartbeats 8000000 in
set_option maxRecDepth 1000000 in
theorem stmt_in (i : Nat) (h1 : 1 ≤ i) (h2 : i < 10) (n : Int) (s : ByteArray) (a a1 a2 : Option Addr) (len cap lb cb le ce : Nat) (f : Bool) (hf : stmtFits i s n len = f)
    (q1 q2 : Bool) (hq1 : ((stmtRow i).2.2.2.2.1 || decide (lb = 0)) = q1) (hq2 : ((stmtRow i).2.2.2.2.2 || decide (le = 0)) = q2) (w : World) (ht : Tab w) :
    Calls Tryz.prog 66 #[.agg #[.int .i64 i, .string s, .int .i64 n, .slice a len cap, .slice a1 lb cb, .slice a2 le ce]] w fun e w' => e = .returned (.bool (f && (q1 && q2))) ∧ Below w.heap.size w w' := by
  have HB := hb_start w
  obtain ⟨p0, p1⟩ := stmt_range i h2
  obtain ⟨c0, c1, c2, c3, c4, c5⟩ := stmt_cells ht.2 i h2
  unfold stmtFits at hf
  generalize (stmtRow i).1 = x0 at hf c0
  generalize (stmtRow i).2.1 = x1 at hf c1
  generalize (stmtRow i).2.2.1 = x2 at hf c2
  generalize (stmtRow i).2.2.2.1 = x3 at hf c3 p0 p1
  generalize (stmtRow i).2.2.2.2.1 = x4 at hq1 c4
  generalize (stmtRow i).2.2.2.2.2 = x5 at hq2 c5
  have hz : 2 < w.heap.size := lt_of_cell c0
  have HF := Lib.hid hf
  have HP := Lib.hid (And.intro p0 p1)
  clear hf p0 p1 ht
  have i1 : ¬ (i : Int) < 1 := by omega
  have i2 : (i : Int) < 10 := by omega
  have r1 := or_cases x4 lb
  have r2 := or_cases x5 le
  rw [hq1] at r1
  rw [hq2] at r2
  clear hq1 hq2
  cases f
  all_goals
    rcases r1 with ⟨rfl, rfl⟩ | ⟨rfl, rfl, rfl⟩ | ⟨rfl, t1, rfl⟩
    all_goals
      rcases r2 with ⟨rfl, rfl⟩ | ⟨rfl, rfl, rfl⟩ | ⟨rfl, t2, rfl⟩
      all_goals
        go_enter Tryz.func66, Tryz.ntmps66
        go_wp2_with (go_at_call 82; refine (fits_r _ _ _ _ _ _ _ _ _ HP.out.1 HP.out.2 _ HF.out _).mono ?_; rintro e w' ⟨rfl, hb⟩; have HB3 : Hid (Below w.heap.size w w') := hb_step (by repeat (first | exact HB | refine hb_drew ?_ | refine hb_alloc ?_ _)) hb; have k4 := (hb.cell (p := ⟨w.heap.size + 1, 4, none⟩) (by simp)).trans (show _ = some (Value.bool _) by simp; rfl); have k5 := (hb.cell (p := ⟨w.heap.size + 1, 5, none⟩) (by simp)).trans (show _ = some (Value.bool _) by simp; rfl); have k6 := (hb.cell (p := ⟨w.heap.size, 4, none⟩) (by simp; omega)).trans (show _ = some (Value.slice a1 _ cb) by simp; rfl); have k7 := (hb.cell (p := ⟨w.heap.size, 5, none⟩) (by simp; omega)).trans (show _ = some (Value.slice a2 _ ce) by simp; rfl); clear hb)
        go_ret
        exact ⟨rfl, HB3.out⟩

set_option maxHeartbeats 4000000 in
set_option maxRecDepth 1000000 in
theorem stmt_out (o : Int) (h : o < 1 ∨ (1 ≤ o ∧ 10 ≤ o)) (n : Int) (s : ByteArray) (a a1 a2 : Option Addr) (len cap lb cb le ce : Nat) (w : World) :
    Calls Tryz.prog 66 #[.agg #[.int .i64 o, .string s, .int .i64 n, .slice a len cap, .slice a1 lb cb, .slice a2 le ce]] w fun e w' => e = .returned (.bool false) ∧ Below w.heap.size w w' := by
  have HB := hb_start w
  rcases h with h | ⟨h, h2⟩
  rotate_left 1
  have h3 : ¬ o < 1 := by omega
  rotate_left 1
  all_goals
    go_enter Tryz.func66, Tryz.ntmps66
    go_wp2
    go_ret
    exact ⟨rfl, (hb_alloc HB _).out⟩
/-- tree.stmt, whatever the statement. -/
theorem stmt_r (o n : Int) (s : ByteArray) (a a1 a2 : Option Addr) (len cap lb cb le ce : Nat) (b : Bool) (hb : stmtB o n s len lb le = b) (w : World) (ht : Tab w) :
    Calls Tryz.prog 66 #[.agg #[.int .i64 o, .string s, .int .i64 n, .slice a len cap, .slice a1 lb cb, .slice a2 le ce]] w fun e w' => e = .returned (.bool b) ∧ Below w.heap.size w w' := by
  unfold stmtB at hb
  by_cases h : 1 ≤ o ∧ o < 10
  · rw [decide_eq_true h, Bool.true_and] at hb
    obtain ⟨i, rfl⟩ : ∃ i : Nat, o = (i : Int) := ⟨o.toNat, by omega⟩
    subst hb
    exact stmt_in i (by omega) (by omega) n s a a1 a2 len cap lb cb le ce _ rfl _ _ rfl rfl w ht
  · rw [decide_eq_false h] at hb
    subst hb
    exact stmt_out o (by omega) n s a a1 a2 len cap lb cb le ce w
end Go.Proofs.YthjjcmmonjajhaaGreatDoor
namespace Go.Proofs.YthjjcmmonjajhaaGreatDoor
open Go.RowKit Go.Sort Go.Shelf
set_option linter.unusedVariables false
attribute [local go_sem] Oper.semAt_some

theorem room_of_none {F : Fence} (hd : F.depth = none) (k : Nat) : F.room k := fun d h => by rw [hd] at h; cases h
theorem roundIn_any {F : Fence} (hd : F.depth = none) {m m' : Nat} {P : Program} {l : Nat} {f : FuncId} {tmps : Array Value} {assign body : Code} {w : World} {R : Ending → World → Prop}
    (h : RoundIn F m P l f tmps assign body w R) : RoundIn F m' P l f tmps assign body w R := ⟨h.1, fun c cs _ => h.2 c cs (room_of_none hd _)⟩
theorem yieldAt_any {F : Fence} (hd : F.depth = none) {m : Nat} (m' : Nat) {P : Program} {l : Nat} {args : Array Value} {W : World} {R : Ending → World → Prop} (h : YieldAt F m P l args W R) : YieldAt F m' P l args W R := by
  obtain ⟨fn, tmps, assign, body, hy, hR⟩ := h
  exact ⟨fn, tmps, assign, body, hy, roundIn_any hd hR⟩

/-- What a round keeps: all below n₀, and every cell but those of block B. -/
def Keep (n₀ B : Nat) (W W' : World) : Prop := Below n₀ W W' ∧ ∀ k o v, k ≠ B → W.cell? ⟨k, o, none⟩ = some v → W'.cell? ⟨k, o, none⟩ = some v
theorem Keep.refl (n₀ B : Nat) (W : World) : Keep n₀ B W W := ⟨Below.refl _ _, fun _ _ _ _ h => h⟩
theorem Keep.trans {n₀ B : Nat} {A C D : World} (h : Keep n₀ B A C) (k : Keep n₀ B C D) : Keep n₀ B A D := ⟨h.1.trans k.1, fun b o v hb hc => k.2 b o v hb (h.2 b o v hb hc)⟩
theorem Keep.of {n₀ B : Nat} {W W' : World} (hn : n₀ ≤ W.heap.size) (h : Below W.heap.size W W') : Keep n₀ B W W' :=
  ⟨h.mono hn, fun b o v _ hc => (h.cell (p := ⟨b, o, none⟩) (lt_of_cell hc)).trans hc⟩
theorem Keep.alloc {n₀ B : Nat} {A W : World} (h : Keep n₀ B A W) (hn : n₀ ≤ W.heap.size) (o : Obj) : Keep n₀ B A (W.alloc o) := h.trans (.of hn ((Below.refl _ _).alloc (Nat.le_refl _) o))

theorem ESl.shape {w : World} {v : Value} {l : List ET} (h : ESl w v l) : ∃ a cap, v = .slice a l.length cap := by cases h; exact ⟨_, _, rfl⟩
theorem SSl.shape {w : World} {v : Value} {l : List ST} (h : SSl w v l) : ∃ a cap, v = .slice a l.length cap := by cases h; exact ⟨_, _, rfl⟩
theorem ET.nodesL_split (l : List ET) (d : Int) (k : Nat) (h : k < l.length) (x : ET) (hx : l.getD k default = x) : ET.nodesL l d = ET.nodesL (l.take k) d ++ (x.nodes d ++ ET.nodesL (l.drop (k + 1)) d) := by
  have : l = l.take (k + 1) ++ l.drop (k + 1) := (List.take_append_drop _ _).symm
  conv => lhs; rw [this]
  rw [ET.nodesL_append, ET.nodesL_take l d k h, hx, List.append_assoc]
theorem ST.nodesL_split (l : List ST) (d : Int) (k : Nat) (h : k < l.length) (x : ST) (hx : l.getD k default = x) : ST.nodesL l d = ST.nodesL (l.take k) d ++ (x.nodes d ++ ST.nodesL (l.drop (k + 1)) d) := by
  have : l = l.take (k + 1) ++ l.drop (k + 1) := (List.take_append_drop _ _).symm
  conv => lhs; rw [this]
  rw [ST.nodesL_append, ST.nodesL_take l d k h, hx, List.append_assoc]
/-- What yields of a node hand over. -/
def nodeV (x : Bool × Int) : Value := .agg #[.bool x.1, .int .i64 x.2]
abbrev Ns := List (Bool × Int)
/-- The rounds of a loop over nodes: J: so many have come; Jx: a round has said 'no more'. -/
def Rounds (lp n₀ B N : Nat) (J Jx : Ns → World → Prop) : Prop :=
  ∀ m pre x W, J pre W → pre.length < N → YieldAt Fence.wide m Tryz.prog lp #[nodeV x] W fun e W' =>
    (e = .returned (.bool true) ∧ J (pre ++ [x]) W' ∧ Keep n₀ B W W') ∨ (e = .returned (.bool false) ∧ Jx (pre ++ [x]) W')
/-- How an iterator over the nodes xs ends, pre having come. -/
def Ends (n₀ B : Nat) (J Jx : Ns → World → Prop) (pre xs : Ns) (W : World) (e : Ending) (W' : World) : Prop :=
  (e = .returned (.bool true) ∧ J (pre ++ xs) W' ∧ Keep n₀ B W W') ∨ (e = .returned (.bool false) ∧ ∃ q, q <+: xs ∧ Jx (pre ++ q) W')
def Fresh (J : Ns → World → Prop) : Prop := ∀ s W W', J s W → Below W.heap.size W W' → J s W'

set_option maxRecDepth 100000 in
set_option maxHeartbeats 4000000 in
theorem below_in (lp n₀ B N : Nat) (J Jx : Ns → World → Prop) (hJ : Fresh J) (hY : Rounds lp n₀ B N J Jx) (w0 : World) (ht : Tab w0) (hn : w0.heap.size = n₀) (hB : n₀ ≤ B) {v : Value} {l : List ET} (h : ESl w0 v l) :
    ∀ (n : Nat) (d : Int) (pre : Ns) (W : World), Keep n₀ B w0 W → B < W.heap.size → J pre W → pre.length + (ET.nodesL l d).length ≤ N →
      CallsIn Fence.wide n Tryz.prog 67 #[v, .int .i64 d, .func (.yield lp) #[] #[]] W (Ends n₀ B J Jx pre (ET.nodesL l d) W) := by
  induction h with
  | mk a b off cap l f ha hc hm hcell hsub ih =>
    intro n d pre W hk0 hBW hJ0 hN
    have HA := Lib.hid ha
    have HC := Lib.hid hcell
    have HIH := Lib.hid ih
    have HN := Lib.hid hN
    have HK0 := Lib.hid hk0
    have HT := Lib.hid ht
    have HJ := Lib.hid hJ
    have HY := Lib.hid hY
    have hm' : cap ≤ 9223372036854775807 := hm
    have HSub := Lib.hid hsub
    clear hcell ih hN hk0 hm hsub ha ht hJ hY
    refine callsIn_of_wp Tryz.func67 rfl trivial ?_ rfl
    simp only [Tryz.ntmps67, List.size_toArray, List.length_cons, List.length_nil, Nat.reduceAdd, Nat.reduceSub, Array.replicate_succ, Array.replicate_zero, List.push_toArray, List.append_toArray, List.nil_append, List.cons_append]
    gi_wp2
    gi_loopw [11] (fun i wr => ∃ k : Nat, i = .int .i64 k ∧ k ≤ l.length ∧ J (pre ++ ET.nodesL (l.take k) d) wr ∧ Hid (Keep n₀ B W wr) ∧ B < wr.heap.size) (fun i _ => l.length - (intOf i).toNat)
    case atStart => exact ⟨0, rfl, Nat.zero_le _, by simpa [ET.nodesL] using hJ0, Keep.refl _ _ _, hBW⟩
    case round =>
      obtain ⟨k, rfl, hk, hJk, HK, hBk⟩ := hrel
      by_cases hlt : k < l.length
      · obtain rfl := HA.out (by omega)
        obtain ⟨e0, e1, e2, e3⟩ := HC.out k hlt
        have hbb : b ≠ B := by have := lt_of_cell e0; omega
        have KW : Keep n₀ B w0 wr := HK0.out.trans HK.out
        replace e0 := KW.2 _ _ _ hbb e0
        replace e1 := KW.2 _ _ _ hbb e1
        replace e2 := KW.2 _ _ _ hbb e2
        replace e3 := KW.2 _ _ _ hbb e3
        have HSk := Lib.hid (HSub.out k hlt)
        have HIk := Lib.hid (HIH.out k hlt)
        have HTW : Hid (Tab wr) := HT.out.below (hn ▸ KW.1)
        have hnd := ET.nodesL_take l d k hlt
        have hsp := fun x hx => ET.nodesL_split l d k hlt x hx
        have hsh := (HSub.out k hlt).shape
        generalize hx : l.getD k default = x at e0 e1 e2 e3 hnd HSk HIk hsh
        replace hsp := hsp x hx
        clear hx
        generalize f k = pv at e3 HSk HIk hsh
        obtain ⟨o, m, s, ps⟩ := x
        simp only [ET.op, ET.num, ET.name, ET.parts] at e0 e1 e2 HIk hsh
        rw [ET.nodes_eq] at hnd hsp
        simp only [ET.op, ET.num, ET.name, ET.parts] at hnd hsp
        obtain ⟨pa, pc, rfl⟩ := hsh
        obtain ⟨q, hq⟩ : ∃ q, exprB o m s ps.length = q := ⟨_, rfl⟩
        rw [hq] at hnd hsp
        have HQ := Lib.hid hq
        have hlen : pre.length + ((ET.nodesL (l.take k) d).length + (1 + (ET.nodesL ps (wrap64 (d + 1))).length)) ≤ N := by
          have := HN.out; rw [hsp] at this; simp at this; omega
        have HLEN := Lib.hid hlen
        have HND := Lib.hid hnd
        have HSP := Lib.hid hsp
        have hBw : wr.heap.size ≠ B := by omega
        have hdd : ∀ k : Nat, (Fence.wide.depth.isSome = true → 1 ≤ k) := fun k h => by cases h
        clear hq hlen hnd hsp
        gi_wp2_with (first
          | ((first | refine ⟨trivial, hdd _, ?_⟩ | refine ⟨hdd _, ?_⟩ | skip); gi_at_call 83; refine (callsIn_wide.2 (expr_r o m s _ ps.length ⟨_, _, rfl⟩ q HQ.out _ (HTW.out.below ((Below.refl _ _).alloc (Nat.le_refl _) _)))).mono ?_; rintro e W2 ⟨rfl, hb2⟩
             have hw2 : Below wr.heap.size wr W2 := ((Below.refl _ _).alloc (Nat.le_refl _) _).trans (hb2.mono (by simp))
             have c3 : W2.cell? ⟨wr.heap.size, 3, none⟩ = some (.slice pa ps.length pc) := (hb2.cell (p := ⟨wr.heap.size, 3, none⟩) (by simp)).trans (by simp)
             have hJ2 := HJ.out _ _ _ hJk hw2
             obtain ⟨fn, tmps, assign, body, hy, hR⟩ := HY.out (n - 1) _ (q, d) W2 hJ2 (by have := HLEN.out; simp; omega)
             simp only [nodeV] at hy
             have HW2 := Lib.hid hw2
             have hz2 : B < W2.heap.size := Nat.lt_of_lt_of_le hBk hw2.size
             clear hb2 hw2)
          | ((first | refine ⟨trivial, hdd _, ?_⟩ | refine ⟨hdd _, ?_⟩ | skip); refine hR.mono ?_; clear hR hy; rintro e W3 (⟨rfl, hJ3, hk3⟩ | ⟨rfl, hx3⟩)
             all_goals (try (have c3' : W3.cell? ⟨wr.heap.size, 3, none⟩ = some (.slice pa ps.length pc) := hk3.2 _ _ _ hBw c3; have HK3 := Lib.hid hk3; clear c3 hk3)))
          | ((first | refine ⟨trivial, hdd _, ?_⟩ | refine ⟨hdd _, ?_⟩ | skip); gi_at_call 67; refine (HIk.out _ _ _ _ ((KW.trans (.of (by omega) HW2.out)).trans HK3.out) (Nat.lt_of_lt_of_le hz2 HK3.out.1.size) hJ3 (by have := HLEN.out; simp; omega)).mono ?_; rintro e W4 (⟨rfl, hJ4, hk4⟩ | ⟨rfl, q', hq', hx4⟩)))
        · exact ⟨⟨k + 1, by go_num, by omega, by rw [HND.out]; simpa [List.append_assoc] using hJ4, HK.out.trans ((Keep.of (by omega) HW2.out).trans (HK3.out.trans hk4)), Nat.lt_of_lt_of_le hz2 (Nat.le_trans HK3.out.1.size hk4.1.size)⟩, by simp [intOf]; omega⟩
        · go_ret
          obtain ⟨r, hr⟩ := hq'
          exact .inr ⟨rfl, ET.nodesL (l.take k) d ++ (q, d) :: q', ⟨r ++ ET.nodesL (l.drop (k + 1)) d, by rw [HSP.out, ← hr]; simp⟩, by simpa [List.append_assoc] using hx4⟩
        · refine ⟨trivial, ?_⟩
          gi_wp2
          go_ret
          exact .inr ⟨rfl, ET.nodesL (l.take k) d ++ [(q, d)], ⟨ET.nodesL ps (wrap64 (d + 1)) ++ ET.nodesL (l.drop (k + 1)) d, by rw [HSP.out]; simp⟩, by simpa [List.append_assoc] using hx3⟩
      · obtain rfl : k = l.length := by omega
        rw [List.take_length] at hJk
        gi_wp2
        go_ret
        exact .inl ⟨rfl, hJk, HK.out⟩
end Go.Proofs.YthjjcmmonjajhaaGreatDoor
namespace Go.Proofs.YthjjcmmonjajhaaGreatDoor
open Go.RowKit Go.Sort Go.Shelf
set_option linter.unusedVariables false
attribute [local go_sem] Oper.semAt_some

set_option maxRecDepth 100000 in
set_option maxHeartbeats 8000000 in
theorem within_in (lp n₀ B N : Nat) (J Jx : Ns → World → Prop) (hJ : Fresh J) (hY : Rounds lp n₀ B N J Jx) (w0 : World) (ht : Tab w0) (hn : w0.heap.size = n₀) (hB : n₀ ≤ B) {v : Value} {l : List ST} (h : SSl w0 v l) :
    ∀ (n : Nat) (d : Int) (pre : Ns) (W : World), Keep n₀ B w0 W → B < W.heap.size → J pre W → pre.length + (ST.nodesL l d).length ≤ N →
      CallsIn Fence.wide n Tryz.prog 38 #[v, .int .i64 d, .func (.yield lp) #[] #[]] W (Ends n₀ B J Jx pre (ST.nodesL l d) W) := by
  induction h with
  | mk a b off cap l f g h ha hc hm hcell hsub hbod hels ihb ihe =>
    intro n d pre W hk0 hBW hJ0 hN
    have HA := Lib.hid ha
    have HC := Lib.hid hcell
    have HIB := Lib.hid ihb
    have HIE := Lib.hid ihe
    have HN := Lib.hid hN
    have HK0 := Lib.hid hk0
    have HT := Lib.hid ht
    have HJ := Lib.hid hJ
    have HY := Lib.hid hY
    have hm' : cap ≤ 9223372036854775807 := hm
    have HSub := Lib.hid hsub
    have HBod := Lib.hid hbod
    have HEls := Lib.hid hels
    clear hcell ihb ihe hN hk0 hm hsub hbod hels ha ht hJ hY
    refine callsIn_of_wp Tryz.func38 rfl trivial ?_ rfl
    simp only [Tryz.ntmps38, List.size_toArray, List.length_cons, List.length_nil, Nat.reduceAdd, Nat.reduceSub, Array.replicate_succ, Array.replicate_zero, List.push_toArray, List.append_toArray, List.nil_append, List.cons_append]
    gi_wp2
    gi_loopw [11] (fun i wr => ∃ k : Nat, i = .int .i64 k ∧ k ≤ l.length ∧ J (pre ++ ST.nodesL (l.take k) d) wr ∧ Hid (Keep n₀ B W wr) ∧ B < wr.heap.size) (fun i _ => l.length - (intOf i).toNat)
    case atStart => exact ⟨0, rfl, Nat.zero_le _, by simpa [ST.nodesL] using hJ0, Keep.refl _ _ _, hBW⟩
    case round =>
      obtain ⟨k, rfl, hk, hJk, HK, hBk⟩ := hrel
      by_cases hlt : k < l.length
      · obtain rfl := HA.out (by omega)
        obtain ⟨e0, e1, e2, e3, e4, e5⟩ := HC.out k hlt
        have hbb : b ≠ B := by have := lt_of_cell e0; omega
        have KW : Keep n₀ B w0 wr := HK0.out.trans HK.out
        replace e0 := KW.2 _ _ _ hbb e0
        replace e1 := KW.2 _ _ _ hbb e1
        replace e2 := KW.2 _ _ _ hbb e2
        replace e3 := KW.2 _ _ _ hbb e3
        replace e4 := KW.2 _ _ _ hbb e4
        replace e5 := KW.2 _ _ _ hbb e5
        have HIL := Lib.hid (below_in lp n₀ B N J Jx HJ.out HY.out w0 HT.out hn hB (HSub.out k hlt))
        have HI1 := Lib.hid (HIB.out k hlt)
        have HI2 := Lib.hid (HIE.out k hlt)
        have HTW : Hid (Tab wr) := HT.out.below (hn ▸ KW.1)
        have hnd := ST.nodesL_take l d k hlt
        have hsp := fun x hx => ST.nodesL_split l d k hlt x hx
        have hsh := (HSub.out k hlt).shape
        have hsh1 := (HBod.out k hlt).shape
        have hsh2 := (HEls.out k hlt).shape
        generalize hx : l.getD k default = x at e0 e1 e2 e3 e4 e5 hnd HIL HI1 HI2 hsh hsh1 hsh2
        replace hsp := hsp x hx
        clear hx
        generalize f k = pv at e3 HIL hsh
        generalize g k = pv1 at e4 HI1 hsh1
        generalize h k = pv2 at e5 HI2 hsh2
        obtain ⟨o, m, s, ps, bs, es⟩ := x
        simp only [ST.op, ST.num, ST.name, ST.parts, ST.body, ST.els] at e0 e1 e2 HIL HI1 HI2 hsh hsh1 hsh2
        rw [ST.nodes_eq] at hnd hsp
        simp only [ST.op, ST.num, ST.name, ST.parts, ST.body, ST.els] at hnd hsp
        obtain ⟨pa, pc, rfl⟩ := hsh
        obtain ⟨pa1, pc1, rfl⟩ := hsh1
        obtain ⟨pa2, pc2, rfl⟩ := hsh2
        obtain ⟨q, hq⟩ : ∃ q, stmtB o m s ps.length bs.length es.length = q := ⟨_, rfl⟩
        rw [hq] at hnd hsp
        have HQ := Lib.hid hq
        have hlen : pre.length + ((ST.nodesL (l.take k) d).length + (1 + ((ET.nodesL ps (wrap64 (d + 1))).length + ((ST.nodesL bs (wrap64 (d + 1))).length + (ST.nodesL es (wrap64 (d + 1))).length)))) ≤ N := by
          have := HN.out; rw [hsp] at this; simp at this; omega
        have HLEN := Lib.hid hlen
        have HND := Lib.hid hnd
        have HSP := Lib.hid hsp
        have hBw : wr.heap.size ≠ B := by omega
        have hdd : ∀ k : Nat, (Fence.wide.depth.isSome = true → 1 ≤ k) := fun k h => by cases h
        clear hq hlen hnd hsp
        gi_wp2_with (first
          | ((first | refine ⟨trivial, hdd _, ?_⟩ | refine ⟨hdd _, ?_⟩ | skip); gi_at_call 66; refine (callsIn_wide.2 (stmt_r o m s pa pa1 pa2 ps.length pc bs.length pc1 es.length pc2 q HQ.out _ (HTW.out.below ((Below.refl _ _).alloc (Nat.le_refl _) _)))).mono ?_; rintro e W2 ⟨rfl, hb2⟩
             have hw2 : Below wr.heap.size wr W2 := ((Below.refl _ _).alloc (Nat.le_refl _) _).trans (hb2.mono (by simp))
             have c3 : W2.cell? ⟨wr.heap.size, 3, none⟩ = some (.slice pa ps.length pc) := (hb2.cell (p := ⟨wr.heap.size, 3, none⟩) (by simp)).trans (by simp)
             have c4 : W2.cell? ⟨wr.heap.size, 4, none⟩ = some (.slice pa1 bs.length pc1) := (hb2.cell (p := ⟨wr.heap.size, 4, none⟩) (by simp)).trans (by simp)
             have c5 : W2.cell? ⟨wr.heap.size, 5, none⟩ = some (.slice pa2 es.length pc2) := (hb2.cell (p := ⟨wr.heap.size, 5, none⟩) (by simp)).trans (by simp)
             have hJ2 := HJ.out _ _ _ hJk hw2
             obtain ⟨fn, tmps, assign, body, hy, hR⟩ := HY.out (n - 1) _ (q, d) W2 hJ2 (by have := HLEN.out; simp; omega)
             simp only [nodeV] at hy
             have hz2 : B < W2.heap.size := Nat.lt_of_lt_of_le hBk hw2.size
             have HW2 : Hid (Keep n₀ B wr W2) := .of (by omega) hw2
             clear hb2 hw2)
          | ((first | refine ⟨trivial, hdd _, ?_⟩ | refine ⟨hdd _, ?_⟩ | skip); refine hR.mono ?_; clear hR hy; rintro e W3 (⟨rfl, hJ3, hk3⟩ | ⟨rfl, hx3⟩)
             all_goals (try (have d3 := hk3.2 _ _ _ hBw c3; have d4 := hk3.2 _ _ _ hBw c4; have d5 := hk3.2 _ _ _ hBw c5; have HK3 : Hid (Keep n₀ B wr W3) := HW2.out.trans hk3; have hz3 := Nat.lt_of_lt_of_le hz2 hk3.1.size; clear c3 c4 c5 hk3)))
          | ((first | refine ⟨trivial, hdd _, ?_⟩ | refine ⟨hdd _, ?_⟩ | skip); gi_at_call 67; refine (HIL.out _ _ _ _ (KW.trans HK3.out) hz3 hJ3 (by have := HLEN.out; simp; omega)).mono ?_; rintro e W4 (⟨rfl, hJ4, hk4⟩ | ⟨rfl, q', hq', hx4⟩)
             all_goals (try (have f4 := hk4.2 _ _ _ hBw d4; have f5 := hk4.2 _ _ _ hBw d5; have HK4 : Hid (Keep n₀ B wr W4) := HK3.out.trans hk4; have hz4 := Nat.lt_of_lt_of_le hz3 hk4.1.size; clear d3 d4 d5 hk4)))
          | ((first | refine ⟨trivial, hdd _, ?_⟩ | refine ⟨hdd _, ?_⟩ | skip); gi_at_call 38; refine (HI1.out _ _ _ _ (KW.trans HK4.out) hz4 hJ4 (by have := HLEN.out; simp; omega)).mono ?_; clear HI1; rintro e W5 (⟨rfl, hJ5, hk5⟩ | ⟨rfl, q', hq', hx5⟩)
             all_goals (try (have g5 := hk5.2 _ _ _ hBw f5; have HK5 : Hid (Keep n₀ B wr W5) := HK4.out.trans hk5; have hz5 := Nat.lt_of_lt_of_le hz4 hk5.1.size; clear f4 f5 hk5)))
          | ((first | refine ⟨trivial, hdd _, ?_⟩ | refine ⟨hdd _, ?_⟩ | skip); gi_at_call 38; refine (HI2.out _ _ _ _ (KW.trans HK5.out) hz5 hJ5 (by have := HLEN.out; simp; omega)).mono ?_; clear HI2; rintro e W6 (⟨rfl, hJ6, hk6⟩ | ⟨rfl, q', hq', hx6⟩)))
        · exact ⟨⟨k + 1, by go_num, by omega, by rw [HND.out]; simpa [List.append_assoc] using hJ6, (HK.out.trans HK5.out).trans hk6, Nat.lt_of_lt_of_le hz5 hk6.1.size⟩, by simp [intOf]; omega⟩
        · go_ret
          obtain ⟨r, hr⟩ := hq'
          exact .inr ⟨rfl, ST.nodesL (l.take k) d ++ (q, d) :: (ET.nodesL ps (wrap64 (d + 1)) ++ (ST.nodesL bs (wrap64 (d + 1)) ++ q')), ⟨r ++ ST.nodesL (l.drop (k + 1)) d, by rw [HSP.out, ← hr]; simp⟩, by simpa [List.append_assoc] using hx6⟩
        · refine ⟨trivial, ?_⟩
          gi_wp2
          go_ret
          obtain ⟨r, hr⟩ := hq'
          exact .inr ⟨rfl, ST.nodesL (l.take k) d ++ (q, d) :: (ET.nodesL ps (wrap64 (d + 1)) ++ q'), ⟨r ++ (ST.nodesL es (wrap64 (d + 1)) ++ ST.nodesL (l.drop (k + 1)) d), by rw [HSP.out, ← hr]; simp⟩, by simpa [List.append_assoc] using hx5⟩
        · refine ⟨trivial, ?_⟩
          gi_wp2
          refine ⟨trivial, ?_⟩
          gi_wp2
          go_ret
          obtain ⟨r, hr⟩ := hq'
          exact .inr ⟨rfl, ST.nodesL (l.take k) d ++ (q, d) :: q', ⟨r ++ (ST.nodesL bs (wrap64 (d + 1)) ++ (ST.nodesL es (wrap64 (d + 1)) ++ ST.nodesL (l.drop (k + 1)) d)), by rw [HSP.out, ← hr]; simp⟩, by simpa [List.append_assoc] using hx4⟩
        · refine ⟨trivial, ?_⟩
          gi_wp2
          refine ⟨trivial, ?_⟩
          gi_wp2
          refine ⟨trivial, ?_⟩
          gi_wp2
          go_ret
          exact .inr ⟨rfl, ST.nodesL (l.take k) d ++ [(q, d)], ⟨ET.nodesL ps (wrap64 (d + 1)) ++ (ST.nodesL bs (wrap64 (d + 1)) ++ (ST.nodesL es (wrap64 (d + 1)) ++ ST.nodesL (l.drop (k + 1)) d)), by rw [HSP.out]; simp⟩, by simpa [List.append_assoc] using hx3⟩
      · obtain rfl : k = l.length := by omega
        rw [List.take_length] at hJk
        gi_wp2
        go_ret
        exact .inl ⟨rfl, hJk, HK.out⟩
end Go.Proofs.YthjjcmmonjajhaaGreatDoor
namespace Go.Proofs.YthjjcmmonjajhaaGreatDoor
open Go.RowKit Go.Sort Go.Shelf
set_option linter.unusedVariables false
attribute [local go_sem] Oper.semAt_some

theorem FT.nodesL_split (l : List FT) (k : Nat) (h : k < l.length) (x : FT) (hx : l.getD k default = x) : FT.nodesL l = FT.nodesL (l.take k) ++ (ST.nodesL x.body 1 ++ FT.nodesL (l.drop (k + 1))) := by
  have : l = l.take (k + 1) ++ l.drop (k + 1) := (List.take_append_drop _ _).symm
  conv => lhs; rw [this]
  rw [show FT.nodesL (l.take (k + 1) ++ l.drop (k + 1)) = FT.nodesL (l.take (k + 1)) ++ FT.nodesL (l.drop (k + 1)) by unfold FT.nodesL; rw [List.flatMap_append], FT.nodesL_take l k h, hx, List.append_assoc]

set_option maxRecDepth 100000 in
set_option maxHeartbeats 4000000 in
theorem nodes1_in (lp n₀ B : Nat) (J Jx : Ns → World → Prop) (fv mv : Value) (p : PT) (hJ : Fresh J) (hY : Rounds lp n₀ B p.nodes.length J Jx) (w0 : World) (ht : Tab w0) (hn : w0.heap.size = n₀) (hB : n₀ ≤ B) (hp : PR w0 fv mv p)
    (n : Nat) (W : World) (Bp : Nat) (hk0 : Keep n₀ B w0 W) (hBW : B < W.heap.size) (hBp : Bp ≠ B) (c0 : W.cell? ⟨Bp, 0, none⟩ = some fv) (c1 : W.cell? ⟨Bp, 1, none⟩ = some mv) (h0 : J [] W) :
    CallsIn Fence.wide n Tryz.prog 37 #[.func (.yield lp) #[] #[], .pointer (some ⟨Bp, 0, none⟩)] W fun e W' => (∃ v, e = .returned v) ∧
      ((∃ ys, ys = p.nodes ∧ J ys W') ∨ (∃ pre, pre <+: p.nodes ∧ Jx pre W')) := by
  obtain ⟨l, ml⟩ := p
  obtain ⟨hf, hmn⟩ := hp
  dsimp only at hf hmn
  have hwm := within_in lp n₀ B _ J Jx hJ hY w0 ht hn hB hmn
  obtain ⟨ma, mc, rfl⟩ := hmn.shape
  cases hf with
  | mk a b off cap _ f g ha hc hm hcell hsub hbod =>
    have HA := Lib.hid ha
    have HC := Lib.hid hcell
    have HK0 := Lib.hid hk0
    have HT := Lib.hid ht
    have HJ := Lib.hid hJ
    have HY := Lib.hid hY
    have HM := Lib.hid hwm
    have hm' : cap ≤ 9223372036854775807 := hm
    have HSub := Lib.hid hsub
    have HBod := Lib.hid hbod
    clear hcell hk0 hm hsub hbod ha ht hJ hY hwm hmn
    have hdd : ∀ k : Nat, (Fence.wide.depth.isSome = true → 1 ≤ k) := fun k h => by cases h
    refine callsIn_of_wp Tryz.func37 rfl trivial ?_ rfl
    simp only [Tryz.ntmps37, List.size_toArray, List.length_cons, List.length_nil, Nat.reduceAdd, Nat.reduceSub, Array.replicate_succ, Array.replicate_zero, List.push_toArray, List.append_toArray, List.nil_append, List.cons_append]
    gi_wp2
    gi_loopw [8] (fun i wr => ∃ k : Nat, i = .int .i64 k ∧ k ≤ l.length ∧ J (FT.nodesL (l.take k)) wr ∧ Hid (Keep n₀ B W wr) ∧ B < wr.heap.size) (fun i _ => l.length - (intOf i).toNat)
    case atStart => exact ⟨0, rfl, Nat.zero_le _, by simpa [FT.nodesL] using h0, Keep.refl _ _ _, hBW⟩
    case round =>
      obtain ⟨k, rfl, hk, hJk, HK, hBk⟩ := hrel
      have KW : Keep n₀ B w0 wr := HK0.out.trans HK.out
      by_cases hlt : k < l.length
      · obtain rfl := HA.out (by omega)
        obtain ⟨e0, e1, e2⟩ := HC.out k hlt
        have hbb : b ≠ B := by have := lt_of_cell e0; omega
        replace e0 := KW.2 _ _ _ hbb e0
        replace e1 := KW.2 _ _ _ hbb e1
        replace e2 := KW.2 _ _ _ hbb e2
        have HIB := Lib.hid (within_in lp n₀ B _ J Jx HJ.out HY.out w0 HT.out hn hB (HBod.out k hlt))
        have hnd := FT.nodesL_take l k hlt
        have hsp := fun x hx => FT.nodesL_split l k hlt x hx
        have hsh : ∃ a n cap, f k = .slice a n cap := by have := HSub.out k hlt; generalize f k = z at this; cases this; exact ⟨_, _, _, rfl⟩
        have hsh1 := (HBod.out k hlt).shape
        generalize hx : l.getD k default = x at e0 e1 e2 hnd HIB hsh1
        replace hsp := hsp x hx
        clear hx
        generalize f k = pv at e1 hsh
        generalize g k = pv1 at e2 HIB hsh1
        obtain ⟨s, ps, bs⟩ := x
        dsimp only at e0 e1 e2 HIB hsh1 hnd hsp
        obtain ⟨pa, pn, pc, rfl⟩ := hsh
        obtain ⟨pa1, pc1, rfl⟩ := hsh1
        have hlen : (FT.nodesL (l.take k)).length + (ST.nodesL bs 1).length ≤ (PT.nodes ⟨l, ml⟩).length := by
          show _ ≤ (FT.nodesL l ++ ST.nodesL ml 1).length
          rw [hsp]; simp; try omega
        have HLEN := Lib.hid hlen
        have HND := Lib.hid hnd
        have HSP := Lib.hid hsp
        have hBw : wr.heap.size ≠ B := by omega
        clear hlen hnd hsp
        have HJ1 : Hid (J (FT.nodesL (l.take k)) (wr.alloc (.cells #[.string s, .slice pa pn pc, .slice pa1 bs.length pc1] 67))) := HJ.out _ _ _ hJk ((Below.refl _ _).alloc (Nat.le_refl _) _)
        have HK1 : Hid (Keep n₀ B wr (wr.alloc (.cells #[.string s, .slice pa pn pc, .slice pa1 bs.length pc1] 67))) := (Keep.refl _ _ _).alloc (by omega) _
        gi_wp2_with (first
          | ((first | refine ⟨trivial, hdd _, ?_⟩ | refine ⟨hdd _, ?_⟩ | skip); gi_at_call 38; refine (HIB.out _ _ _ _ (KW.trans HK1.out) (by simp; omega) HJ1.out (by simpa using HLEN.out)).mono ?_; rintro e W5 (⟨rfl, hJ5, hk5⟩ | ⟨rfl, q', hq', hx5⟩)))
        · exact ⟨⟨k + 1, by go_num, by omega, by rw [HND.out]; exact hJ5, (HK.out.trans HK1.out).trans hk5, Nat.lt_of_lt_of_le (by simp; omega) hk5.1.size⟩, by simp [intOf]; omega⟩
        · refine bodyPost_ret (results_none rfl _ _ _) rfl ?_
          obtain ⟨r, hr⟩ := hq'
          exact ⟨⟨_, rfl⟩, .inr ⟨FT.nodesL (l.take k) ++ q', ⟨r ++ (FT.nodesL (l.drop (k + 1)) ++ ST.nodesL ml 1), by show _ = FT.nodesL l ++ ST.nodesL ml 1; rw [HSP.out, ← hr]; simp⟩, hx5⟩⟩
      · obtain rfl : k = l.length := by omega
        rw [List.take_length] at hJk
        have d0 := HK.out.2 _ _ _ hBp c0
        have d1 := HK.out.2 _ _ _ hBp c1
        gi_wp2_with (first
          | ((first | refine ⟨trivial, hdd _, ?_⟩ | refine ⟨hdd _, ?_⟩ | skip); gi_at_call 38; refine (HM.out _ _ _ _ KW hBk hJk (by show _ ≤ (FT.nodesL l ++ ST.nodesL ml 1).length; simp)).mono ?_; rintro e W5 (⟨rfl, hJ5, hk5⟩ | ⟨rfl, q', hq', hx5⟩)))
        · go_end0
          exact ⟨⟨_, rfl⟩, .inl ⟨_, rfl, hJ5⟩⟩
        · go_end0
          obtain ⟨r, hr⟩ := hq'
          exact ⟨⟨_, rfl⟩, .inr ⟨FT.nodesL l ++ q', ⟨r, by show _ = FT.nodesL l ++ ST.nodesL ml 1; rw [← hr]; simp⟩, hx5⟩⟩

set_option maxHeartbeats 1000000 in
theorem nodes_in (n : Nat) (a1 a2 : Option Addr) (n1 n2 c1 c2 : Nat) (w : World) :
    CallsIn Fence.wide n Tryz.prog 17 #[.agg #[.slice a1 n1 c1, .slice a2 n2 c2]] w fun e w' => e = .returned (.func (.func 37) #[] #[.pointer (some ⟨w.heap.size, 0, none⟩)]) ∧ w' = w.alloc (.cells #[.slice a1 n1 c1, .slice a2 n2 c2] 25) := by
  refine callsIn_of_wp Tryz.func17 rfl trivial ?_ rfl
  simp only [Tryz.ntmps17, List.size_toArray, List.length_cons, List.length_nil, Nat.reduceAdd, Nat.reduceSub, Array.replicate_succ, Array.replicate_zero, List.push_toArray, List.append_toArray, List.nil_append, List.cons_append]
  gi_wp2
  go_ret
  exact ⟨rfl, rfl⟩
theorem fresh_of {B : Nat} {J : Ns → World → Prop} (h : AbidesFrom B J) : Fresh J := fun s W W' hs hb => h s W W' none hs ⟨hb.os, hb.tape, hb.output, hb.size, fun k hk _ => hb.block k hk⟩ (fun r e => by cases e)
theorem keep_b {n₀ B : Nat} {w : World} (hn : n₀ ≤ w.heap.size) (W : World) (l : Nat) (o o' : Obj) (hl : w.heap.size ≤ l) (h : W.heap[l]? = some o) (hc : o.isCells = false) (hw : o.isWalk = false) : Keep n₀ B W (W.putObj l o') :=
  ⟨belowK_b hn W l o o' hl h hc hw, fun k i v _ hv => cell_kept hv (grownBy_putObj' W l o') (fun r e => by cases e; exact ⟨o, h, hc⟩)⟩
/-- tree.nodes hands back a value that gives all nodes, in order. -/
theorem nodes_stops (n Bp n₀ B : Nat) (fv mv : Value) (p : PT) (w0 w : World) (ht : Tab w0) (hn : w0.heap.size = n₀) (hB : n₀ ≤ B) (hp : PR w0 fv mv p) (hk : Keep n₀ B w0 w) (hBw : B < w.heap.size) (hBp : Bp ≠ B)
    (c0 : w.cell? ⟨Bp, 0, none⟩ = some fv) (c1 : w.cell? ⟨Bp, 1, none⟩ = some mv) :
    SeqStopsK Fence.wide n Tryz.prog 37 #[.pointer (some ⟨Bp, 0, none⟩)] (fun x : Bool × Int => #[nodeV x]) (Keep n₀ B) (fun ys => ys = p.nodes) (fun pre => pre <+: p.nodes) p.nodes.length w := fun l J Jx W hW hJ _ hY h0 =>
  nodes1_in l n₀ B J Jx fv mv p (fresh_of hJ) (fun m pre x W hj hl => yieldAt_any rfl m (hY pre x W hj hl)) w0 ht hn hB hp n W Bp (hk.trans (.of (by have := hk.1.size; omega) hW)) (Nat.lt_of_lt_of_le hBw hW.size) hBp
    ((hW.cell (p := ⟨Bp, 0, none⟩) (lt_of_cell c0)).trans c0) ((hW.cell (p := ⟨Bp, 1, none⟩) (lt_of_cell c1)).trans c1) h0
end Go.Proofs.YthjjcmmonjajhaaGreatDoor
namespace Go.Proofs.YthjjcmmonjajhaaGreatDoor
open Go.RowKit Go.Sort Go.Shelf
set_option linter.unusedVariables false
attribute [local go_sem] Oper.semAt_some

theorem keep_set {n₀ B : Nat} (hB : n₀ ≤ B) (W : World) (v : Value) : Keep n₀ B W (W.setCell ⟨B, 0, none⟩ v) :=
  ⟨(Below.refl _ _).setCell (p := ⟨B, 0, none⟩) hB _, fun k o u hk h => (grownBy_setCell' W B v).cell h (fun e => hk (by cases e; rfl))⟩

set_option maxRecDepth 100000 in
set_option maxHeartbeats 4000000 in
theorem depth_r (a1 a2 : Option Addr) (n1 n2 k1 k2 : Nat) (p : PT) (w : World) (ht : Tab w) (hp : PR w (.slice a1 n1 k1) (.slice a2 n2 k2) p) (r : Int) (hr : p.depth = r) :
    Calls Tryz.prog 18 #[.agg #[.slice a1 n1 k1, .slice a2 n2 k2]] w fun e W' => e = .returned (.int .i64 r) ∧ Below w.heap.size w W' := by
  have HR := Lib.hid hr
  have HT := Lib.hid ht
  have HP := Lib.hid hp
  clear hr ht hp
  refine callsIn_wide (n := 6).1 ?_
  refine callsIn_of_wp_marks Tryz.func18 rfl trivial ?_ rfl
  simp only [Tryz.ntmps18, List.size_toArray, List.length_cons, List.length_nil, Nat.reduceAdd, Nat.reduceSub, Array.replicate_succ, Array.replicate_zero, List.push_toArray, List.append_toArray, List.nil_append, List.cons_append]
  gi_wp2_with ((first | refine ⟨trivial, ?_⟩ | skip); gi_at_call 17; refine (nodes_in _ _ _ _ _ _ _ _).mono ?_; rintro e w' ⟨rfl, rfl⟩)
  have bN := (Boxed.new (w.alloc (.cells #[.slice a1 n1 k1, .slice a2 n2 k2] 25)) 3 (.int .i64 0)).alloc (.cells #[.slice a1 n1 k1, .slice a2 n2 k2] 25)
  have hp0 := World.alloc_heap_new ((w.alloc (.cells #[.slice a1 n1 k1, .slice a2 n2 k2] 25)).alloc (.cells #[.int .i64 0] 3)) (.cells #[.slice a1 n1 k1, .slice a2 n2 k2] 25)
  simp only [World.size_alloc] at bN hp0
  have hK0 : Keep w.heap.size (w.heap.size + 1) w (((w.alloc (.cells #[.slice a1 n1 k1, .slice a2 n2 k2] 25)).alloc (.cells #[.int .i64 0] 3)).alloc (.cells #[.slice a1 n1 k1, .slice a2 n2 k2] 25)) := (((Keep.refl _ _ w).alloc (Nat.le_refl _) _).alloc (by simp) _).alloc (by simp; omega) _
  have hsz : (((w.alloc (.cells #[.slice a1 n1 k1, .slice a2 n2 k2] 25)).alloc (.cells #[.int .i64 0] 3)).alloc (.cells #[.slice a1 n1 k1, .slice a2 n2 k2] 25)).heap.size = w.heap.size + 3 := by simp
  obtain ⟨W0, hW0⟩ : ∃ W0, ((w.alloc (.cells #[.slice a1 n1 k1, .slice a2 n2 k2] 25)).alloc (.cells #[.int .i64 0] 3)).alloc (.cells #[.slice a1 n1 k1, .slice a2 n2 k2] 25) = W0 := ⟨_, rfl⟩
  rw [hW0] at bN hp0 hK0 hsz ⊢
  clear hW0
  have c0 : W0.cell? ⟨w.heap.size + 1 + 1, 0, none⟩ = some (.slice a1 n1 k1) := by simp [World.cell?, hp0]
  have c1 : W0.cell? ⟨w.heap.size + 1 + 1, 1, none⟩ = some (.slice a2 n2 k2) := by simp [World.cell?, hp0]
  clear hp0
  refine wpIn_rangeFunc_ownH rfl (by decide) (gf := 37) (lb := #[.pointer (some ⟨w.heap.size + 1 + 1, 0, none⟩)]) rfl trivial (enters_of Tryz.func37 (by kernel_rfl) rfl)
    (nodes_stops _ (w.heap.size + 1 + 1) w.heap.size (w.heap.size + 1) _ _ p w W0 HT.out rfl (by omega) HP.out hK0 (by omega) (by omega) c0 c1) (fun h k => Keep.trans h k) (keep_b (by omega)) (Below.refl _ _) (fun _ => rfl)
    (fun pre W => Boxed W (w.heap.size + 1) 3 (.int .i64 (depthF pre)) ∧ Below w.heap.size w W)
    (fun _ _ _ => False)
    (OwnFrom.and (Own.from (boxed_own _ _ _) _) (ownFrom_below (Nat.le_refl _) (by omega)))
    (fun _ _ _ _ _ hs _ _ => hs)
    ⟨bN, hK0.1⟩
    (fun x a' W => ∃ Bx, w.heap.size + 1 < Bx ∧ (W.cell? ⟨Bx, 0, none⟩ = some (.bool x.1) ∧ W.cell? ⟨Bx, 1, none⟩ = some (.int .i64 x.2)) ∧ a' = { tmps := #[.agg #[.slice a1 n1 k1, .slice a2 n2 k2], .pointer (some ⟨w.heap.size, 0, none⟩), .int .i64 0, .pointer (some ⟨w.heap.size + 1, 0, none⟩), .pointer (some ⟨Bx, 0, none⟩), .agg #[.slice a1 n1 k1, .slice a2 n2 k2], .func (.func 37) #[] #[.pointer (some ⟨w.heap.size + 1 + 1, 0, none⟩)], nodeV x, undef, undef, undef, undef, undef], defers := [] })
    (fun x a' _ X Y row hs hg hr => by obtain ⟨Bx, h1, h2, h3⟩ := hs; exact ⟨Bx, h1, ⟨cell_kept h2.1 hg (fun r e => (hr r e).2), cell_kept h2.2 hg (fun r e => (hr r e).2)⟩, h3⟩)
    ?assign ?body ?done ?stop
  case assign =>
    rintro l pre ⟨x, d⟩ W K ⟨bS1, hB1⟩ hK
    dsimp only [nodeV]
    gi_wp2
    exact hK _ _ ((KeepsOthers.alloc _ _).from _) ((Keep.refl _ _ _).alloc hB1.size _) ⟨bS1.alloc _, hB1.alloc hB1.size _⟩ ⟨W.heap.size, bS1.lt, ⟨by simp, by simp⟩, rfl⟩
  case body =>
    rintro l pre ⟨x, d⟩ a' W hl ⟨r, hr⟩ ⟨bS1, hB1⟩ ⟨Bx, hBx, ⟨c2, c3⟩, rfl⟩ hlt
    have c4 := bS1.cell
    have f4 := bS1.frozen
    gi_wp2
    all_goals
      refine ⟨(KeepsOthers.setCell _ _ _).from _, keep_set (by omega) _ _, ?_, hB1.setCell (p := ⟨w.heap.size + 1, 0, none⟩) (by simp) _⟩
      rw [depthF_snoc]
      first | (rw [Int.max_eq_left (by assumption)]; exact bS1.set _) | (rw [Int.max_eq_right (by omega)]; exact bS1.set _)
  case done =>
    rintro D ys W hD rfl ⟨bS1, hB1⟩ hK
    have c4 := bS1.cell
    gi_wp2
    refine ⟨by simp, .inl ⟨_, _, rfl, run_takeDeferred hK, ?_⟩⟩
    refine ⟨_, results_tmp rfl _ _ _, by rw [← HR.out]; rfl, hB1.trans (belowK_b (w := w) (Nat.le_refl _) W D _ _ (by omega) hK rfl rfl)⟩
  case stop =>
    rintro D c pre W _ _ h _
    exact h.elim
end Go.Proofs.YthjjcmmonjajhaaGreatDoor
namespace Go.Proofs.YthjjcmmonjajhaaGreatDoor
open Go.RowKit Go.Sort
set_option linter.unusedVariables false

set_option maxHeartbeats 1000000 in
set_option maxRecDepth 1000000 in
theorem head1_r (s : ByteArray) (b : Bool) (hb : (!nameB s) = b) (w : World) :
    Calls Tryz.prog 36 #[.string s] w fun e w' => e = .returned (.bool b) ∧ Below w.heap.size w w' := by
  obtain ⟨i, hi⟩ : ∃ i, nameB s = i := ⟨_, rfl⟩
  rw [hi] at hb
  subst hb
  have HI := Lib.hid hi
  clear hi
  have HB := hb_start w
  cases i
  all_goals
    go_enter Tryz.func36, Tryz.ntmps36
    go_wp2_with (go_at_call 34; refine (name_r s _ HI.out _).mono ?_; rintro e w' ⟨rfl, hb⟩; have HB2 : Hid (Below w.heap.size w w') := hb_step HB hb; clear hb)
    go_ret
    exact ⟨rfl, HB2.out⟩

theorem any_take {α : Type} (l : List α) (z : α) (p : α → Bool) (k : Nat) (h : k < l.length) : (l.take (k + 1)).any p = ((l.take k).any p || p (l.getD k z)) := by
  rw [take_next l z k h, List.any_append]; simp
theorem any_at {α : Type} (l : List α) (z : α) (p : α → Bool) (k : Nat) (h : k < l.length) (hp : p (l.getD k z) = true) : l.any p = true := by
  refine List.any_eq_true.2 ⟨_, ?_, hp⟩
  rw [List.getD_eq_getElem?_getD, List.getElem?_eq_getElem h]; exact List.getElem_mem _

set_option maxHeartbeats 2000000 in
set_option maxRecDepth 1000000 in
theorem idxs_r (v : Value) (l : List ByteArray) (q : Bool) (hq : l.any (fun s => !nameB s) = q) (w : World) (h : TSl w v l) :
    Calls Tryz.prog 65 #[v, .func (.func 36) #[] #[]] w fun e w' => (∃ r : Int, e = .returned (.int .i64 r) ∧ decide (0 ≤ r) = q ∧ -1 ≤ r ∧ r ≤ 9223372036854775807) ∧ Below w.heap.size w w' := by
  cases h with
  | mk a b off cap l ha hc hm hcell =>
    have HA := Lib.hid ha
    have HC := Lib.hid hcell
    have HQ := Lib.hid hq
    have hm' : cap ≤ 9223372036854775807 := hm
    clear ha hcell hq hm
    have HB := hb_start w
    go_enter Tryz.func65, Tryz.ntmps65
    go_wp2
    go_loopw [8] (fun i wr => ∃ k : Nat, i = .int .i64 k ∧ k ≤ l.length ∧ Hid (Below w.heap.size w wr) ∧ Hid ((l.take k).any (fun s => !nameB s) = false)) (fun i _ => l.length - (intOf i).toNat)
    case atStart => exact ⟨0, rfl, by omega, HB, by show _ = _; simp⟩
    case round =>
      clear HB
      obtain ⟨k, rfl, hk, HB, HK⟩ := hrel
      by_cases hlt : k < l.length
      · obtain rfl := HA.out (by omega)
        have e0 := HC.out k hlt
        replace e0 := (HB.out.cell (p := ⟨b, off + k, none⟩) (lt_of_cell e0)).trans e0
        have HT := Lib.hid (any_take l ByteArray.empty (fun s => !nameB s) k hlt)
        have HAT := Lib.hid (any_at l ByteArray.empty (fun s => !nameB s) k hlt)
        generalize l.getD k ByteArray.empty = x at e0 HT HAT
        obtain ⟨t, ht⟩ : ∃ t, (!nameB x) = t := ⟨_, rfl⟩
        have HX := Lib.hid ht
        clear ht
        cases t with
        | true =>
          go_wp2_with (go_at_call 36; refine (head1_r x _ HX.out _).mono ?_; rintro e w' ⟨rfl, hb⟩; have HB2 : Hid (Below w.heap.size w w') := hb_step HB hb; clear hb)
          go_ret
          exact ⟨⟨_, rfl, by rw [← HQ.out, HAT.out HX.out]; exact decide_eq_true (by omega), by omega, by omega⟩, HB2.out⟩
        | false =>
          go_wp2_with (go_at_call 36; refine (head1_r x _ HX.out _).mono ?_; rintro e w' ⟨rfl, hb⟩; have HB2 : Hid (Below w.heap.size w w') := hb_step HB hb; clear hb)
          go_roundw
          case rel => exact ⟨k + 1, by go_num, by omega, HB2, by show _ = _; rw [HT.out, HK.out, HX.out]; rfl⟩
          case measure => simp [intOf]; omega
      · obtain rfl : k = l.length := by omega
        go_wp2
        go_ret
        have := HK.out
        rw [List.take_length] at this
        exact ⟨⟨-1, rfl, by rw [← HQ.out, this]; rfl, by omega, by omega⟩, HB.out⟩

set_option maxHeartbeats 1000000 in
set_option maxRecDepth 1000000 in
theorem conts_r (a : Option Addr) (n cap : Nat) (l : List ByteArray) (q : Bool) (hq : l.any (fun s => !nameB s) = q) (w : World) (h : TSl w (.slice a n cap) l) :
    Calls Tryz.prog 35 #[.slice a n cap, .func (.func 36) #[] #[]] w fun e w' => e = .returned (.bool q) ∧ Below w.heap.size w w' := by
  have HH := Lib.hid h
  have HQ := Lib.hid hq
  clear h hq
  have HB := hb_start w
  cases q
  all_goals
    go_enter Tryz.func35, Tryz.ntmps35
    go_wp2_with (go_at_call 65; refine (idxs_r _ l _ HQ.out _ HH.out).mono ?_; rintro e w' ⟨⟨r, rfl, hr, hr0, hr1⟩, hb⟩; have HB2 : Hid (Below w.heap.size w w') := hb_step HB hb; clear hb)
    go_ret
    exact ⟨rfl, HB2.out⟩

set_option maxHeartbeats 4000000 in
set_option maxRecDepth 1000000 in
theorem head_r (s : ByteArray) (a : Option Addr) (cap : Nat) (a2 : Option Addr) (n2 c2 : Nat) (l : List ByteArray) (bs : List ST) (b : Bool) (hb : FT.headB ⟨s, l, bs⟩ = b) (w : World) (h : TSl w (.slice a l.length cap) l) :
    Calls Tryz.prog 16 #[.agg #[.string s, .slice a l.length cap, .slice a2 n2 c2]] w fun e w' => e = .returned (.bool b) ∧ Below w.heap.size w w' := by
  subst hb
  unfold FT.headB
  dsimp only
  obtain ⟨q1, h1⟩ : ∃ q, nameB s = q := ⟨_, rfl⟩
  obtain ⟨q2, h2⟩ : ∃ q, l.any (fun s => !nameB s) = q := ⟨_, rfl⟩
  rw [h1, h2]
  have H1 := Lib.hid h1
  have H2 := Lib.hid h2
  have HH := Lib.hid h
  clear h1 h2 h
  have HB := hb_start w
  have hcase : (decide (l.length ≤ 8) = true ∧ (l.length : Int) ≤ 8) ∨ (decide (l.length ≤ 8) = false ∧ decide ((l.length : Int) ≤ 8) = false) := by
    by_cases h : l.length ≤ 8
    · exact .inl ⟨decide_eq_true h, by omega⟩
    · exact .inr ⟨decide_eq_false h, decide_eq_false (by omega)⟩
  rcases hcase with ⟨h8, h8'⟩ | ⟨h8, h8'⟩
  all_goals
    rw [h8]
    clear h8
    cases q1 <;> cases q2
    all_goals
      go_enter Tryz.func16, Tryz.ntmps16
      go_wp2_with (first
        | (go_at_call 34; refine (name_r s _ H1.out _).mono ?_; rintro e w' ⟨rfl, hb⟩; have HB2 : Hid (Below w.heap.size w w') := hb_step (by repeat (first | exact HB | refine hb_drew ?_ | refine hb_alloc ?_ _)) hb; have k1 := (hb.cell (p := ⟨w.heap.size, 1, none⟩) (by simp)).trans (show _ = some (Value.slice a l.length cap) by simp); clear hb)
        | (go_at_call 35; refine (conts_r _ _ _ l _ H2.out _ (HH.out.stay HB2.out)).mono ?_; rintro e w'' ⟨rfl, hb⟩; have HB3 : Hid (Below w.heap.size w w'') := hb_step HB2 hb; clear hb; clear HB2; have HB2 := HB3))
      go_ret
      exact ⟨rfl, HB2.out⟩

set_option maxHeartbeats 1000000 in
set_option maxRecDepth 1000000 in
theorem right1_r (s : ByteArray) (a : Option Addr) (cap : Nat) (a2 : Option Addr) (n2 c2 : Nat) (l : List ByteArray) (bs : List ST) (b : Bool) (hb : (!FT.headB ⟨s, l, bs⟩) = b) (w : World) (h : TSl w (.slice a l.length cap) l) :
    Calls Tryz.prog 15 #[.agg #[.string s, .slice a l.length cap, .slice a2 n2 c2]] w fun e w' => e = .returned (.bool b) ∧ Below w.heap.size w w' := by
  obtain ⟨i, hi⟩ : ∃ i, FT.headB ⟨s, l, bs⟩ = i := ⟨_, rfl⟩
  rw [hi] at hb
  subst hb
  have HI := Lib.hid hi
  have HH := Lib.hid h
  clear hi h
  have HB := hb_start w
  cases i
  all_goals
    go_enter Tryz.func15, Tryz.ntmps15
    go_wp2_with (go_at_call 16; refine (head_r s a cap a2 n2 c2 l bs _ HI.out _ (HH.out.stay ((Below.refl _ _).alloc (Nat.le_refl _) _))).mono ?_; rintro e w' ⟨rfl, hb⟩; have HB2 : Hid (Below w.heap.size w w') := hb_step (by repeat (first | exact HB | refine hb_drew ?_ | refine hb_alloc ?_ _)) hb; clear hb)
    go_ret
    exact ⟨rfl, HB2.out⟩

theorem TSl.shape {w : World} {v : Value} {l : List ByteArray} (h : TSl w v l) : ∃ a cap, v = .slice a l.length cap := by cases h; exact ⟨_, _, rfl⟩
theorem SSl.shape' {w : World} {v : Value} {l : List ST} (h : SSl w v l) : ∃ a cap, v = .slice a l.length cap := by cases h; exact ⟨_, _, rfl⟩

set_option maxHeartbeats 2000000 in
set_option maxRecDepth 1000000 in
theorem idxf_r (v : Value) (l : List FT) (q : Bool) (hq : l.any (fun f => !f.headB) = q) (w : World) (h : FSl w v l) :
    Calls Tryz.prog 33 #[v, .func (.func 15) #[] #[]] w fun e w' => (∃ r : Int, e = .returned (.int .i64 r) ∧ decide (0 ≤ r) = q ∧ -1 ≤ r ∧ r ≤ 9223372036854775807) ∧ Below w.heap.size w w' := by
  cases h with
  | mk a b off cap l f g ha hc hm hcell hp hbd =>
    have HA := Lib.hid ha
    have HC := Lib.hid hcell
    have HQ := Lib.hid hq
    have HP := Lib.hid hp
    have HD := Lib.hid hbd
    have hm' : cap ≤ 9223372036854775807 := hm
    clear ha hcell hq hm hp hbd
    have HB := hb_start w
    go_enter Tryz.func33, Tryz.ntmps33
    go_wp2
    go_loopw [8] (fun i wr => ∃ k : Nat, i = .int .i64 k ∧ k ≤ l.length ∧ Hid (Below w.heap.size w wr) ∧ Hid ((l.take k).any (fun f => !f.headB) = false)) (fun i _ => l.length - (intOf i).toNat)
    case atStart => exact ⟨0, rfl, by omega, HB, by show _ = _; simp⟩
    case round =>
      clear HB
      obtain ⟨k, rfl, hk, HB, HK⟩ := hrel
      by_cases hlt : k < l.length
      · obtain rfl := HA.out (by omega)
        obtain ⟨e0, e1, e2⟩ := HC.out k hlt
        have hz : b < w.heap.size := lt_of_cell e0
        replace e0 := (HB.out.cell (p := ⟨b, off + k * 3, none⟩) hz).trans e0
        replace e1 := (HB.out.cell (p := ⟨b, off + k * 3 + 1, none⟩) hz).trans e1
        replace e2 := (HB.out.cell (p := ⟨b, off + k * 3 + 2, none⟩) hz).trans e2
        have HPk := Lib.hid (HP.out k hlt)
        have hsh := (HP.out k hlt).shape
        have hsh2 := (HD.out k hlt).shape'
        have HT := Lib.hid (any_take l default (fun f => !f.headB) k hlt)
        have HAT := Lib.hid (any_at l default (fun f => !f.headB) k hlt)
        generalize l.getD k default = x at e0 e1 e2 HT HAT HPk hsh hsh2
        generalize f k = pv at e1 HPk hsh
        generalize g k = pv1 at e2 hsh2
        obtain ⟨s, ps, bs⟩ := x
        dsimp only at e0 HPk hsh hsh2
        obtain ⟨pa, pc, rfl⟩ := hsh
        obtain ⟨pa1, pc1, rfl⟩ := hsh2
        obtain ⟨t, ht⟩ : ∃ t, (!FT.headB ⟨s, ps, bs⟩) = t := ⟨_, rfl⟩
        have HX := Lib.hid ht
        clear ht
        cases t with
        | true =>
          go_wp2_with (go_at_call 15; refine (right1_r s pa pc pa1 _ pc1 ps bs _ HX.out _ (HPk.out.stay HB.out)).mono ?_; rintro e w' ⟨rfl, hb⟩; have HB2 : Hid (Below w.heap.size w w') := hb_step HB hb; clear hb)
          go_ret
          exact ⟨⟨_, rfl, by rw [← HQ.out, HAT.out HX.out]; exact decide_eq_true (by omega), by omega, by omega⟩, HB2.out⟩
        | false =>
          go_wp2_with (go_at_call 15; refine (right1_r s pa pc pa1 _ pc1 ps bs _ HX.out _ (HPk.out.stay HB.out)).mono ?_; rintro e w' ⟨rfl, hb⟩; have HB2 : Hid (Below w.heap.size w w') := hb_step HB hb; clear hb)
          go_roundw
          case rel => exact ⟨k + 1, by go_num, by omega, HB2, by show _ = _; rw [HT.out, HK.out, HX.out]; rfl⟩
          case measure => simp [intOf]; omega
      · obtain rfl : k = l.length := by omega
        go_wp2
        go_ret
        have := HK.out
        rw [List.take_length] at this
        exact ⟨⟨-1, rfl, by rw [← HQ.out, this]; rfl, by omega, by omega⟩, HB.out⟩

set_option maxHeartbeats 1000000 in
set_option maxRecDepth 1000000 in
theorem contf_r (a : Option Addr) (n cap : Nat) (l : List FT) (q : Bool) (hq : l.any (fun f => !f.headB) = q) (w : World) (h : FSl w (.slice a n cap) l) :
    Calls Tryz.prog 14 #[.slice a n cap, .func (.func 15) #[] #[]] w fun e w' => e = .returned (.bool q) ∧ Below w.heap.size w w' := by
  have HH := Lib.hid h
  have HQ := Lib.hid hq
  clear h hq
  have HB := hb_start w
  cases q
  all_goals
    go_enter Tryz.func14, Tryz.ntmps14
    go_wp2_with (go_at_call 33; refine (idxf_r _ l _ HQ.out _ HH.out).mono ?_; rintro e w' ⟨⟨r, rfl, hr, hr0, hr1⟩, hb⟩; have HB2 : Hid (Below w.heap.size w w') := hb_step HB hb; clear hb)
    go_ret
    exact ⟨rfl, HB2.out⟩
end Go.Proofs.YthjjcmmonjajhaaGreatDoor
namespace Go.Proofs.YthjjcmmonjajhaaGreatDoor
open Go.RowKit Go.Sort Go.Shelf
set_option linter.unusedVariables false
attribute [local go_sem] Oper.semAt_some

def AllR (pre : Ns) (b : Bool) : Prop := pre.all (·.1) = b
theorem heap_new2 (w : World) (o o' : Obj) : ((w.alloc o).alloc o').heap[w.heap.size + 1]? = some o' := by
  have := World.alloc_heap_new (w.alloc o) o'
  rwa [World.size_alloc] at this
theorem right_bad {p : PT} (h : p.headsB = false) : p.right = 1 := by unfold PT.right; rw [h]; rfl
set_option maxRecDepth 100000 in
set_option maxHeartbeats 4000000 in
theorem right_many (a1 a2 : Option Addr) (n1 n2 k1 k2 : Nat) (w : World) (hm : 32 < n1) :
    Calls Tryz.prog 6 #[.agg #[.slice a1 n1 k1, .slice a2 n2 k2]] w fun e W' => e = .returned (.int .i64 1) ∧ Below w.heap.size w W' := by
  have hm' : (32 : Int) < n1 := by omega
  go_enter Tryz.func6, Tryz.ntmps6
  go_wp2
  exact bodyPost_ret (v := .int .i64 1) (by simp [results, Tryz.f6, go_sem]) rfl ⟨rfl, (((Below.refl _ _).alloc (Nat.le_refl _) _).alloc (by simp) _)⟩
set_option maxRecDepth 100000 in
set_option maxHeartbeats 4000000 in
theorem right_some (a1 a2 : Option Addr) (n1 n2 k1 k2 : Nat) (l : List FT) (w : World) (hm : n1 ≤ 32) (hq : l.any (fun f => !f.headB) = true) (h : FSl w (.slice a1 n1 k1) l) :
    Calls Tryz.prog 6 #[.agg #[.slice a1 n1 k1, .slice a2 n2 k2]] w fun e W' => e = .returned (.int .i64 1) ∧ Below w.heap.size w W' := by
  have hm' : decide ((32 : Int) < n1) = false := decide_eq_false (by omega)
  have HQ := Lib.hid hq
  have HH := Lib.hid h
  clear hq h
  have HB := hb_start w
  go_enter Tryz.func6, Tryz.ntmps6
  go_wp2_with (go_at_call 14; refine (contf_r _ _ _ l _ HQ.out _ (HH.out.stay (((Below.refl _ _).alloc (Nat.le_refl _) _).alloc (by simp) _))).mono ?_; rintro e w' ⟨rfl, hb⟩; have HB2 : Hid (Below w.heap.size w w') := hb_step (by repeat (first | exact HB | refine hb_drew ?_ | refine hb_alloc ?_ _)) hb; have bR : Boxed w' (w.heap.size + 1) 30 (.int .i64 0) := (hb.block (w.heap.size + 1) (by simp)).trans (heap_new2 _ _ _); have c5 := bR.cell; have f5 := bR.frozen; clear hb)
  have c6 := (bR.set (.int .i64 1)).cell
  exact bodyPost_ret (v := .int .i64 1) (by simp [results, Tryz.f6, go_sem, c6]) rfl ⟨rfl, HB2.out.setCell (p := ⟨w.heap.size + 1, 0, none⟩) (by simp) _⟩
set_option maxRecDepth 100000 in
set_option maxHeartbeats 4000000 in
theorem right_in (a1 a2 : Option Addr) (n1 n2 k1 k2 : Nat) (p : PT) (w : World) (ht : Tab w) (hp : PR w (.slice a1 n1 k1) (.slice a2 n2 k2) p) (hm : n1 ≤ 32) (hq : p.funcs.any (fun f => !f.headB) = false) (r : Int) (hr : (if p.nodes.all (·.1) then (if 64 < p.depth then 3 else 0) else 1) = r) :
    Calls Tryz.prog 6 #[.agg #[.slice a1 n1 k1, .slice a2 n2 k2]] w fun e W' => e = .returned (.int .i64 r) ∧ Below w.heap.size w W' := by
  have hm' : decide ((32 : Int) < n1) = false := decide_eq_false (by omega)
  have HQ := Lib.hid hq
  have HR := Lib.hid hr
  have HT := Lib.hid ht
  have HP := Lib.hid hp
  clear hr ht hp hq
  have HB := hb_start w
  refine callsIn_wide (n := 6).1 ?_
  refine callsIn_of_wp_marks Tryz.func6 rfl trivial ?_ rfl
  simp only [Tryz.ntmps6, List.size_toArray, List.length_cons, List.length_nil, Nat.reduceAdd, Nat.reduceSub, Array.replicate_succ, Array.replicate_zero, List.push_toArray, List.append_toArray, List.nil_append, List.cons_append]
  gi_wp2_with (first
    | ((first | refine ⟨trivial, ?_⟩ | skip); gi_at_call 14; refine (callsIn_wide.2 (contf_r _ _ _ p.funcs _ HQ.out _ (HP.out.1.stay (((Below.refl _ _).alloc (Nat.le_refl _) _).alloc (by simp) _)))).mono ?_; rintro e W1 ⟨rfl, hb⟩
       have hK1 : Keep w.heap.size (w.heap.size + 1) w W1 := (((Keep.refl _ _ w).alloc (Nat.le_refl _) _).alloc (by simp) _).trans (.of (by simp; omega) hb)
       have hz1 : w.heap.size + 1 < W1.heap.size := Nat.lt_of_lt_of_le (by simp) hb.size
       have bR : Boxed W1 (w.heap.size + 1) 30 (.int .i64 0) := (hb.block (w.heap.size + 1) (by simp)).trans (heap_new2 _ _ _)
       have p0 : W1.cell? ⟨w.heap.size, 0, none⟩ = some (.slice a1 n1 k1) := (hb.cell (p := ⟨w.heap.size, 0, none⟩) (by simp; omega)).trans (by simp)
       have p1 : W1.cell? ⟨w.heap.size, 1, none⟩ = some (.slice a2 n2 k2) := (hb.cell (p := ⟨w.heap.size, 1, none⟩) (by simp; omega)).trans (by simp)
       clear hb)
    | ((first | refine ⟨trivial, ?_⟩ | skip); gi_at_call 17; refine (nodes_in _ _ _ _ _ _ _ _).mono ?_; rintro e w' ⟨rfl, rfl⟩))
  have hp0 := World.alloc_heap_new W1 (.cells #[.slice a1 n1 k1, .slice a2 n2 k2] 25)
  have q0 := (((Below.refl W1.heap.size W1).alloc (Nat.le_refl _) (.cells #[.slice a1 n1 k1, .slice a2 n2 k2] 25)).cell (p := ⟨w.heap.size, 0, none⟩) (by show w.heap.size < _; omega)).trans p0
  have q1 := (((Below.refl W1.heap.size W1).alloc (Nat.le_refl _) (.cells #[.slice a1 n1 k1, .slice a2 n2 k2] 25)).cell (p := ⟨w.heap.size, 1, none⟩) (by show w.heap.size < _; omega)).trans p1
  have bN := bR.alloc (.cells #[.slice a1 n1 k1, .slice a2 n2 k2] 25)
  have hK0 : Keep w.heap.size (w.heap.size + 1) w (W1.alloc (.cells #[.slice a1 n1 k1, .slice a2 n2 k2] 25)) := hK1.alloc (by omega) _
  have hsz : (W1.alloc (.cells #[.slice a1 n1 k1, .slice a2 n2 k2] 25)).heap.size = W1.heap.size + 1 := by simp
  obtain ⟨Bp, hBp⟩ : ∃ Bp, W1.heap.size = Bp := ⟨_, rfl⟩
  obtain ⟨W0, hW0⟩ : ∃ W0, W1.alloc (.cells #[.slice a1 n1 k1, .slice a2 n2 k2] 25) = W0 := ⟨_, rfl⟩
  rw [hBp] at hp0 hsz hz1 ⊢
  rw [hW0] at bN hp0 hK0 hsz q0 q1 ⊢
  clear hW0 hBp hK1 bR p0 p1
  have c0 : W0.cell? ⟨Bp, 0, none⟩ = some (.slice a1 n1 k1) := by simp [World.cell?, hp0]
  have c1 : W0.cell? ⟨Bp, 1, none⟩ = some (.slice a2 n2 k2) := by simp [World.cell?, hp0]
  clear hp0
  obtain ⟨dd, hdd⟩ : ∃ dd, p.depth = dd := ⟨_, rfl⟩
  have HDD := Lib.hid hdd
  clear hdd
  refine wpIn_rangeFunc_ownH rfl (by decide) (gf := 37) (lb := #[.pointer (some ⟨Bp, 0, none⟩)]) rfl trivial (enters_of Tryz.func37 (by kernel_rfl) rfl)
    (nodes_stops _ Bp w.heap.size (w.heap.size + 1) _ _ p w W0 HT.out rfl (by omega) HP.out hK0 (by omega) (by omega) c0 c1) (fun h k => Keep.trans h k) (keep_b (by omega)) (Below.refl _ _) (fun _ => rfl)
    (fun pre W => (AllR pre true ∧ Boxed W (w.heap.size + 1) 30 (.int .i64 0) ∧ W.cell? ⟨w.heap.size, 0, none⟩ = some (.slice a1 n1 k1) ∧ W.cell? ⟨w.heap.size, 1, none⟩ = some (.slice a2 n2 k2)) ∧ Below w.heap.size w W)
    (fun c pre W => (c = .ret ∧ AllR pre false ∧ Boxed W (w.heap.size + 1) 30 (.int .i64 1)) ∧ Below w.heap.size w W)
    (OwnFrom.and (Own.from (fun s X Y row hs hg hr => ⟨hs.1, boxed_own _ _ (fun _ => Value.int .i64 0) s X Y row hs.2.1 hg hr, cell_kept hs.2.2.1 hg hr, cell_kept hs.2.2.2 hg hr⟩) _) (ownFrom_below (Nat.le_refl _) (by omega)))
    (fun c => OwnFrom.and (Own.from (fun s X Y row hs hg hr => ⟨hs.1, hs.2.1, boxed_own _ _ (fun _ => Value.int .i64 1) s X Y row hs.2.2 hg hr⟩) _) (ownFrom_below (Nat.le_refl _) (by omega)))
    ⟨⟨(rfl : ([] : Ns).all (·.1) = true), bN, q0, q1⟩, hK0.1⟩
    (fun x a' W => ∃ Bx, w.heap.size + 1 < Bx ∧ (W.cell? ⟨Bx, 0, none⟩ = some (.bool x.1) ∧ W.cell? ⟨Bx, 1, none⟩ = some (.int .i64 x.2)) ∧ a' = { tmps := #[.agg #[.slice a1 n1 k1, .slice a2 n2 k2], .pointer (some ⟨w.heap.size, 0, none⟩), .pointer (some ⟨w.heap.size + 1, 0, none⟩), .pointer (some ⟨Bx, 0, none⟩), .pointer (some ⟨w.heap.size, 0, none⟩), .slice a1 n1 k1, .int .i64 n1, .bool false, .bool false, .pointer (some ⟨w.heap.size, 0, none⟩), .slice a1 n1 k1, .bool false, .bool false, .agg #[.slice a1 n1 k1, .slice a2 n2 k2], .func (.func 37) #[] #[.pointer (some ⟨Bp, 0, none⟩)], nodeV x, undef, undef, undef, undef, undef, undef], defers := [] })
    (fun x a' _ X Y row hs hg hr => by obtain ⟨Bx, h1, h2, h3⟩ := hs; exact ⟨Bx, h1, ⟨cell_kept h2.1 hg (fun r e => (hr r e).2), cell_kept h2.2 hg (fun r e => (hr r e).2)⟩, h3⟩)
    ?assign ?body ?done ?stop
  case assign =>
    rintro l pre ⟨x, d⟩ W K ⟨⟨hal, bS1, r0, r1⟩, hB1⟩ hK
    dsimp only [nodeV]
    gi_wp2
    exact hK _ _ ((KeepsOthers.alloc _ _).from _) ((Keep.refl _ _ _).alloc hB1.size _) ⟨⟨hal, bS1.alloc _, (((Below.refl W.heap.size W).alloc (Nat.le_refl _) _).cell (p := ⟨w.heap.size, 0, none⟩) (lt_of_cell r0)).trans r0, (((Below.refl W.heap.size W).alloc (Nat.le_refl _) _).cell (p := ⟨w.heap.size, 1, none⟩) (lt_of_cell r1)).trans r1⟩, hB1.alloc hB1.size _⟩ ⟨W.heap.size, bS1.lt, ⟨by simp, by simp⟩, rfl⟩
  case body =>
    rintro l pre ⟨x, d⟩ a' W hl ⟨r, hr⟩ ⟨⟨HAL, bS1, r0, r1⟩, hB1⟩ ⟨Bx, hBx, ⟨c2, c3⟩, rfl⟩ hlt
    have c4 := bS1.cell
    have f4 := bS1.frozen
    cases x
    · gi_wp2
      exact ⟨(KeepsOthers.setCell _ _ _).from _, ⟨rfl, (by show List.all _ _ = false; rw [List.all_append]; simp), bS1.set _⟩, hB1.setCell (p := ⟨w.heap.size + 1, 0, none⟩) (by simp) _⟩
    · gi_wp2
      exact ⟨KeepsFrom.refl _ _, Keep.refl _ _ _, ⟨(by show List.all _ _ = true; rw [List.all_append, show List.all _ _ = true from HAL]; rfl), bS1, r0, r1⟩, hB1⟩
  case done =>
    rintro D ys W hD rfl ⟨⟨HAL, bS1, r0, r1⟩, hB1⟩ hK
    have HK := Lib.hid hK
    have HB1 := Lib.hid hB1
    clear hK
    by_cases h64 : 64 < dd
    rotate_left 1
    have h64' : decide (64 < dd) = false := decide_eq_false h64
    clear h64
    rotate_left 1
    all_goals
      gi_wp2_with ((first | refine ⟨trivial, by decide, ?_⟩ | refine ⟨trivial, ?_⟩ | skip); gi_at_call 18; refine (callsIn_wide.2 (depth_r a1 a2 n1 n2 k1 k2 p _ (HT.out.below HB1.out) (HP.out.stay HB1.out) _ HDD.out)).mono ?_; rintro e W2 ⟨rfl, hb⟩; have bS2 : Boxed W2 (w.heap.size + 1) 30 (.int .i64 0) := (hb.block _ bS1.lt).trans bS1; have HK2 : Hid (W2.heap[D]? = some (.deferred (some []))) := (hb.block _ (Array.getElem?_eq_some_iff.1 HK.out).1).trans HK.out; have HB2 : Hid (Below w.heap.size w W2) := hb_step HB1 hb; have c4 := bS2.cell; have f4 := bS2.frozen; clear hb)
    · have hK' := (KeepsOthers.setCell W2 ⟨w.heap.size + 1, 0, none⟩ (.int .i64 3)).same D _ HK2.out rfl
      refine ⟨by simp, .inl ⟨_, _, rfl, run_takeDeferred hK', ?_⟩⟩
      have hc5 := cell_kept (bS2.set (.int .i64 3)).cell (grownBy_putObj' _ D (.deferred none)) (fun r e => by cases e; exact ⟨_, hK', rfl⟩)
      refine ⟨.int .i64 3, ?_, by rw [← HR.out, show List.all _ _ = true from HAL, if_pos rfl, HDD.out, if_pos h64], (HB2.out.setCell (p := ⟨w.heap.size + 1, 0, none⟩) (by simp) _).trans (belowK_b (w := w) (Nat.le_refl _) _ D _ _ (by omega) hK' rfl rfl)⟩
      simp [results, Tryz.f6, go_sem, hc5]
    · have hK' := (KeepsOthers.setCell W2 ⟨w.heap.size + 1, 0, none⟩ (.int .i64 0)).same D _ HK2.out rfl
      refine ⟨by simp, .inl ⟨_, _, rfl, run_takeDeferred hK', ?_⟩⟩
      have hc5 := cell_kept (bS2.set (.int .i64 0)).cell (grownBy_putObj' _ D (.deferred none)) (fun r e => by cases e; exact ⟨_, hK', rfl⟩)
      refine ⟨.int .i64 0, ?_, by rw [← HR.out, show List.all _ _ = true from HAL, if_pos rfl, HDD.out, if_neg (of_decide_eq_false h64')], (HB2.out.setCell (p := ⟨w.heap.size + 1, 0, none⟩) (by simp) _).trans (belowK_b (w := w) (Nat.le_refl _) _ D _ _ (by omega) hK' rfl rfl)⟩
      simp [results, Tryz.f6, go_sem, hc5]
  case stop =>
    rintro D c pre W hD hpre ⟨⟨rfl, hin, bS1⟩, hB1⟩ hK
    gi_wp2
    refine ⟨by simp, .inl ⟨_, _, rfl, run_takeDeferred hK, ?_⟩⟩
    have hc5 := cell_kept bS1.cell (grownBy_putObj' _ D (.deferred none)) (fun r e => by cases e; exact ⟨_, hK, rfl⟩)
    have hall : p.nodes.all (·.1) = false := by
      obtain ⟨t, ht⟩ := hpre
      rw [← ht, List.all_append, show List.all _ _ = false from hin]; rfl
    refine ⟨.int .i64 1, ?_, by rw [← HR.out, hall]; rfl, hB1.trans (belowK_b (w := w) (Nat.le_refl _) W D _ _ (by omega) hK rfl rfl)⟩
    simp [results, Tryz.f6, go_sem, hc5]

/-- tree.Right, whatever the program. -/
theorem right_r (a1 a2 : Option Addr) (n1 n2 k1 k2 : Nat) (p : PT) (w : World) (ht : Tab w) (hp : PR w (.slice a1 n1 k1) (.slice a2 n2 k2) p) (r : Int) (hr : p.right = r) :
    Calls Tryz.prog 6 #[.agg #[.slice a1 n1 k1, .slice a2 n2 k2]] w fun e W' => e = .returned (.int .i64 r) ∧ Below w.heap.size w W' := by
  have hl : n1 = p.funcs.length := by
    obtain ⟨h, _⟩ := hp
    generalize hv : Value.slice a1 n1 k1 = v at h
    cases h; cases hv; rfl
  subst hr
  by_cases hm : n1 ≤ 32
  · cases hq : p.funcs.any (fun f => !f.headB) with
    | true =>
      rw [right_bad (by unfold PT.headsB; rw [hq]; simp)]
      exact right_some a1 a2 n1 n2 k1 k2 p.funcs w hm hq hp.1
    | false =>
      refine right_in a1 a2 n1 n2 k1 k2 p w ht hp hm hq _ ?_
      unfold PT.right PT.headsB
      rw [hq, decide_eq_true (hl ▸ hm)]; rfl
  · rw [right_bad (by unfold PT.headsB; rw [decide_eq_false (by omega)]; rfl)]
    exact right_many a1 a2 n1 n2 k1 k2 w (by omega)
end Go.Proofs.YthjjcmmonjajhaaGreatDoor
