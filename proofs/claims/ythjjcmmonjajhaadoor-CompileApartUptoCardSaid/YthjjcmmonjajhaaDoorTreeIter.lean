/- tree.below, tree.within: the recursive iterators. -/
import Derived.Test.YthjjcmmonjajhaaDoorTreeStmt
import Derived.RangeFuncNested
import Derived.RangeFuncBound
import Derived.RangeFuncCalls
import Derived.RangeFuncLeaves
import Derived.RangeFuncFrom
import Derived.Shelf.Abstract
import Derived.Shelf.RegionOpen
import Derived.OwnWalkIn
import Derived.TacticsInMore
import Derived.LoopNIn
import Derived.LoopIn
namespace Go.Proofs.YthjjcmmonjajhaaDoor
open Go.RowKit Go.Sort Go.Shelf
set_option linter.unusedVariables false
attribute [local go_sem] Oper.semAt_some

theorem room_of_none {F : Fence} (hd : F.depth = none) (k : Nat) : F.room k := fun d h => by rw [hd] at h; cases h
theorem roundIn_any {F : Fence} (hd : F.depth = none) {m m' : Nat} {P : Program} {l : Nat} {f : FuncId} {tmps : Array Value} {assign body : Code} {w : World} {R : Ending → World → Prop}
    (h : RoundIn F m P l f tmps assign body w R) : RoundIn F m' P l f tmps assign body w R := ⟨h.1, fun c cs _ => h.2 c cs (room_of_none hd _)⟩
theorem yieldAt_any {F : Fence} (hd : F.depth = none) {m : Nat} (m' : Nat) {P : Program} {l : Nat} {args : Array Value} {W : World} {R : Ending → World → Prop} (h : YieldAt F m P l args W R) : YieldAt F m' P l args W R := by
  obtain ⟨fn, tmps, assign, body, hy, hR⟩ := h
  exact ⟨fn, tmps, assign, body, hy, roundIn_any hd hR⟩

/-- What a round keeps: all below n₀, and every cell but those of block B. -/
def Keep (n₀ B : Nat) (W W' : World) : Prop := Below n₀ W W' ∧ ∀ k o v, k ≠ B → W.cell? ⟨k, o, none⟩ = some v → W'.cell? ⟨k, o, none⟩ = some v
theorem Keep.refl (n₀ B : Nat) (W : World) : Keep n₀ B W W := ⟨Below.refl _ _, fun _ _ _ _ h => h⟩
theorem Keep.trans {n₀ B : Nat} {A C D : World} (h : Keep n₀ B A C) (k : Keep n₀ B C D) : Keep n₀ B A D := ⟨h.1.trans k.1, fun b o v hb hc => k.2 b o v hb (h.2 b o v hb hc)⟩
theorem Keep.of {n₀ B : Nat} {W W' : World} (hn : n₀ ≤ W.heap.size) (h : Below W.heap.size W W') : Keep n₀ B W W' :=
  ⟨h.mono hn, fun b o v _ hc => (h.cell (p := ⟨b, o, none⟩) (lt_of_cell hc)).trans hc⟩
theorem Keep.alloc {n₀ B : Nat} {A W : World} (h : Keep n₀ B A W) (hn : n₀ ≤ W.heap.size) (o : Obj) : Keep n₀ B A (W.alloc o) := h.trans (.of hn ((Below.refl _ _).alloc (Nat.le_refl _) o))

theorem ESl.shape {w : World} {v : Value} {l : List ET} (h : ESl w v l) : ∃ a cap, v = .slice a l.length cap := by cases h; exact ⟨_, _, rfl⟩
theorem SSl.shape {w : World} {v : Value} {l : List ST} (h : SSl w v l) : ∃ a cap, v = .slice a l.length cap := by cases h; exact ⟨_, _, rfl⟩
theorem ET.nodesL_split (l : List ET) (d : Int) (k : Nat) (h : k < l.length) (x : ET) (hx : l.getD k default = x) : ET.nodesL l d = ET.nodesL (l.take k) d ++ (x.nodes d ++ ET.nodesL (l.drop (k + 1)) d) := by
  have : l = l.take (k + 1) ++ l.drop (k + 1) := (List.take_append_drop _ _).symm
  conv => lhs; rw [this]
  rw [ET.nodesL_append, ET.nodesL_take l d k h, hx, List.append_assoc]
theorem ST.nodesL_split (l : List ST) (d : Int) (k : Nat) (h : k < l.length) (x : ST) (hx : l.getD k default = x) : ST.nodesL l d = ST.nodesL (l.take k) d ++ (x.nodes d ++ ST.nodesL (l.drop (k + 1)) d) := by
  have : l = l.take (k + 1) ++ l.drop (k + 1) := (List.take_append_drop _ _).symm
  conv => lhs; rw [this]
  rw [ST.nodesL_append, ST.nodesL_take l d k h, hx, List.append_assoc]
/-- What yields of a node hand over. -/
def nodeV (x : Bool × Int) : Value := .agg #[.bool x.1, .int .i64 x.2]
abbrev Ns := List (Bool × Int)
/-- The rounds of a loop over nodes: J: so many have come; Jx: a round has said 'no more'. -/
def Rounds (lp n₀ B N : Nat) (J Jx : Ns → World → Prop) : Prop :=
  ∀ m pre x W, J pre W → pre.length < N → YieldAt Fence.wide m Tryd.prog lp #[nodeV x] W fun e W' =>
    (e = .returned (.bool true) ∧ J (pre ++ [x]) W' ∧ Keep n₀ B W W') ∨ (e = .returned (.bool false) ∧ Jx (pre ++ [x]) W')
/-- How an iterator over the nodes xs ends, pre having come. -/
def Ends (n₀ B : Nat) (J Jx : Ns → World → Prop) (pre xs : Ns) (W : World) (e : Ending) (W' : World) : Prop :=
  (e = .returned (.bool true) ∧ J (pre ++ xs) W' ∧ Keep n₀ B W W') ∨ (e = .returned (.bool false) ∧ ∃ q, q <+: xs ∧ Jx (pre ++ q) W')
def Fresh (J : Ns → World → Prop) : Prop := ∀ s W W', J s W → Below W.heap.size W W' → J s W'

set_option maxRecDepth 100000 in
set_option maxHeartbeats 4000000 in
theorem below_in (lp n₀ B N : Nat) (J Jx : Ns → World → Prop) (hJ : Fresh J) (hY : Rounds lp n₀ B N J Jx) (w0 : World) (ht : Tab w0) (hn : w0.heap.size = n₀) (hB : n₀ ≤ B) {v : Value} {l : List ET} (h : ESl w0 v l) :
    ∀ (n : Nat) (d : Int) (pre : Ns) (W : World), Keep n₀ B w0 W → B < W.heap.size → J pre W → pre.length + (ET.nodesL l d).length ≤ N →
      CallsIn Fence.wide n Tryd.prog 61 #[v, .int .i64 d, .func (.yield lp) #[] #[]] W (Ends n₀ B J Jx pre (ET.nodesL l d) W) := by
  induction h with
  | mk a b off cap l f ha hc hm hcell hsub ih =>
    intro n d pre W hk0 hBW hJ0 hN
    have HA := Lib.hid ha
    have HC := Lib.hid hcell
    have HIH := Lib.hid ih
    have HN := Lib.hid hN
    have HK0 := Lib.hid hk0
    have HT := Lib.hid ht
    have HJ := Lib.hid hJ
    have HY := Lib.hid hY
    have hm' : cap ≤ 9223372036854775807 := hm
    have HSub := Lib.hid hsub
    clear hcell ih hN hk0 hm hsub ha ht hJ hY
    refine callsIn_of_wp Tryd.func61 rfl trivial ?_ rfl
    simp only [Tryd.ntmps61, List.size_toArray, List.length_cons, List.length_nil, Nat.reduceAdd, Nat.reduceSub, Array.replicate_succ, Array.replicate_zero, List.push_toArray, List.append_toArray, List.nil_append, List.cons_append]
    gi_wp2
    gi_loopw [11] (fun i wr => ∃ k : Nat, i = .int .i64 k ∧ k ≤ l.length ∧ J (pre ++ ET.nodesL (l.take k) d) wr ∧ Hid (Keep n₀ B W wr) ∧ B < wr.heap.size) (fun i _ => l.length - (intOf i).toNat)
    case atStart => exact ⟨0, rfl, Nat.zero_le _, by simpa [ET.nodesL] using hJ0, Keep.refl _ _ _, hBW⟩
    case round =>
      obtain ⟨k, rfl, hk, hJk, HK, hBk⟩ := hrel
      by_cases hlt : k < l.length
      · obtain rfl := HA.out (by omega)
        obtain ⟨e0, e1, e2, e3⟩ := HC.out k hlt
        have hbb : b ≠ B := by have := lt_of_cell e0; omega
        have KW : Keep n₀ B w0 wr := HK0.out.trans HK.out
        replace e0 := KW.2 _ _ _ hbb e0
        replace e1 := KW.2 _ _ _ hbb e1
        replace e2 := KW.2 _ _ _ hbb e2
        replace e3 := KW.2 _ _ _ hbb e3
        have HSk := Lib.hid (HSub.out k hlt)
        have HIk := Lib.hid (HIH.out k hlt)
        have HTW : Hid (Tab wr) := HT.out.below (hn ▸ KW.1)
        have hnd := ET.nodesL_take l d k hlt
        have hsp := fun x hx => ET.nodesL_split l d k hlt x hx
        have hsh := (HSub.out k hlt).shape
        generalize hx : l.getD k default = x at e0 e1 e2 e3 hnd HSk HIk hsh
        replace hsp := hsp x hx
        clear hx
        generalize f k = pv at e3 HSk HIk hsh
        obtain ⟨o, m, s, ps⟩ := x
        simp only [ET.op, ET.num, ET.name, ET.parts] at e0 e1 e2 HIk hsh
        rw [ET.nodes_eq] at hnd hsp
        simp only [ET.op, ET.num, ET.name, ET.parts] at hnd hsp
        obtain ⟨pa, pc, rfl⟩ := hsh
        obtain ⟨q, hq⟩ : ∃ q, exprB o m s ps.length = q := ⟨_, rfl⟩
        rw [hq] at hnd hsp
        have HQ := Lib.hid hq
        have hlen : pre.length + ((ET.nodesL (l.take k) d).length + (1 + (ET.nodesL ps (wrap64 (d + 1))).length)) ≤ N := by
          have := HN.out; rw [hsp] at this; simp at this; omega
        have HLEN := Lib.hid hlen
        have HND := Lib.hid hnd
        have HSP := Lib.hid hsp
        have hBw : wr.heap.size ≠ B := by omega
        have hdd : ∀ k : Nat, (Fence.wide.depth.isSome = true → 1 ≤ k) := fun k h => by cases h
        clear hq hlen hnd hsp
        gi_wp2_with (first
          | ((first | refine ⟨trivial, hdd _, ?_⟩ | refine ⟨hdd _, ?_⟩ | skip); gi_at_call 70; refine (callsIn_wide.2 (expr_r o m s _ ps.length ⟨_, _, rfl⟩ q HQ.out _ (HTW.out.below ((Below.refl _ _).alloc (Nat.le_refl _) _)))).mono ?_; rintro e W2 ⟨rfl, hb2⟩
             have hw2 : Below wr.heap.size wr W2 := ((Below.refl _ _).alloc (Nat.le_refl _) _).trans (hb2.mono (by simp))
             have c3 : W2.cell? ⟨wr.heap.size, 3, none⟩ = some (.slice pa ps.length pc) := (hb2.cell (p := ⟨wr.heap.size, 3, none⟩) (by simp)).trans (by simp)
             have hJ2 := HJ.out _ _ _ hJk hw2
             obtain ⟨fn, tmps, assign, body, hy, hR⟩ := HY.out (n - 1) _ (q, d) W2 hJ2 (by have := HLEN.out; simp; omega)
             simp only [nodeV] at hy
             have HW2 := Lib.hid hw2
             have hz2 : B < W2.heap.size := Nat.lt_of_lt_of_le hBk hw2.size
             clear hb2 hw2)
          | ((first | refine ⟨trivial, hdd _, ?_⟩ | refine ⟨hdd _, ?_⟩ | skip); refine hR.mono ?_; clear hR hy; rintro e W3 (⟨rfl, hJ3, hk3⟩ | ⟨rfl, hx3⟩)
             all_goals (try (have c3' : W3.cell? ⟨wr.heap.size, 3, none⟩ = some (.slice pa ps.length pc) := hk3.2 _ _ _ hBw c3; have HK3 := Lib.hid hk3; clear c3 hk3)))
          | ((first | refine ⟨trivial, hdd _, ?_⟩ | refine ⟨hdd _, ?_⟩ | skip); gi_at_call 61; refine (HIk.out _ _ _ _ ((KW.trans (.of (by omega) HW2.out)).trans HK3.out) (Nat.lt_of_lt_of_le hz2 HK3.out.1.size) hJ3 (by have := HLEN.out; simp; omega)).mono ?_; rintro e W4 (⟨rfl, hJ4, hk4⟩ | ⟨rfl, q', hq', hx4⟩)))
        · exact ⟨⟨k + 1, by go_num, by omega, by rw [HND.out]; simpa [List.append_assoc] using hJ4, HK.out.trans ((Keep.of (by omega) HW2.out).trans (HK3.out.trans hk4)), Nat.lt_of_lt_of_le hz2 (Nat.le_trans HK3.out.1.size hk4.1.size)⟩, by simp [intOf]; omega⟩
        · go_ret
          obtain ⟨r, hr⟩ := hq'
          exact .inr ⟨rfl, ET.nodesL (l.take k) d ++ (q, d) :: q', ⟨r ++ ET.nodesL (l.drop (k + 1)) d, by rw [HSP.out, ← hr]; simp⟩, by simpa [List.append_assoc] using hx4⟩
        · refine ⟨trivial, ?_⟩
          gi_wp2
          go_ret
          exact .inr ⟨rfl, ET.nodesL (l.take k) d ++ [(q, d)], ⟨ET.nodesL ps (wrap64 (d + 1)) ++ ET.nodesL (l.drop (k + 1)) d, by rw [HSP.out]; simp⟩, by simpa [List.append_assoc] using hx3⟩
      · obtain rfl : k = l.length := by omega
        rw [List.take_length] at hJk
        gi_wp2
        go_ret
        exact .inl ⟨rfl, hJk, HK.out⟩
end Go.Proofs.YthjjcmmonjajhaaDoor
