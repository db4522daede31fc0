/- tree.nodes: the iterator over a program's nodes. -/
import Derived.Test.YthjjcmmonjajhaaDoorTreeWithin
namespace Go.Proofs.YthjjcmmonjajhaaDoor
open Go.RowKit Go.Sort Go.Shelf
set_option linter.unusedVariables false
attribute [local go_sem] Oper.semAt_some

theorem FT.nodesL_split (l : List FT) (k : Nat) (h : k < l.length) (x : FT) (hx : l.getD k default = x) : FT.nodesL l = FT.nodesL (l.take k) ++ (ST.nodesL x.body 1 ++ FT.nodesL (l.drop (k + 1))) := by
  have : l = l.take (k + 1) ++ l.drop (k + 1) := (List.take_append_drop _ _).symm
  conv => lhs; rw [this]
  rw [show FT.nodesL (l.take (k + 1) ++ l.drop (k + 1)) = FT.nodesL (l.take (k + 1)) ++ FT.nodesL (l.drop (k + 1)) by unfold FT.nodesL; rw [List.flatMap_append], FT.nodesL_take l k h, hx, List.append_assoc]

set_option maxRecDepth 100000 in
set_option maxHeartbeats 4000000 in
theorem nodes1_in (lp n₀ B : Nat) (J Jx : Ns → World → Prop) (fv mv : Value) (p : PT) (hJ : Fresh J) (hY : Rounds lp n₀ B p.nodes.length J Jx) (w0 : World) (ht : Tab w0) (hn : w0.heap.size = n₀) (hB : n₀ ≤ B) (hp : PR w0 fv mv p)
    (n : Nat) (W : World) (Bp : Nat) (hk0 : Keep n₀ B w0 W) (hBW : B < W.heap.size) (hBp : Bp ≠ B) (c0 : W.cell? ⟨Bp, 0, none⟩ = some fv) (c1 : W.cell? ⟨Bp, 1, none⟩ = some mv) (h0 : J [] W) :
    CallsIn Fence.wide n Tryd.prog 44 #[.func (.yield lp) #[] #[], .pointer (some ⟨Bp, 0, none⟩)] W fun e W' => (∃ v, e = .returned v) ∧
      ((∃ ys, ys = p.nodes ∧ J ys W') ∨ (∃ pre, pre <+: p.nodes ∧ Jx pre W')) := by
  obtain ⟨l, ml⟩ := p
  obtain ⟨hf, hmn⟩ := hp
  dsimp only at hf hmn
  have hwm := within_in lp n₀ B _ J Jx hJ hY w0 ht hn hB hmn
  obtain ⟨ma, mc, rfl⟩ := hmn.shape
  cases hf with
  | mk a b off cap _ f g ha hc hm hcell hsub hbod =>
    have HA := Lib.hid ha
    have HC := Lib.hid hcell
    have HK0 := Lib.hid hk0
    have HT := Lib.hid ht
    have HJ := Lib.hid hJ
    have HY := Lib.hid hY
    have HM := Lib.hid hwm
    have hm' : cap ≤ 9223372036854775807 := hm
    have HSub := Lib.hid hsub
    have HBod := Lib.hid hbod
    clear hcell hk0 hm hsub hbod ha ht hJ hY hwm hmn
    have hdd : ∀ k : Nat, (Fence.wide.depth.isSome = true → 1 ≤ k) := fun k h => by cases h
    refine callsIn_of_wp Tryd.func44 rfl trivial ?_ rfl
    simp only [Tryd.ntmps44, List.size_toArray, List.length_cons, List.length_nil, Nat.reduceAdd, Nat.reduceSub, Array.replicate_succ, Array.replicate_zero, List.push_toArray, List.append_toArray, List.nil_append, List.cons_append]
    gi_wp2
    gi_loopw [8] (fun i wr => ∃ k : Nat, i = .int .i64 k ∧ k ≤ l.length ∧ J (FT.nodesL (l.take k)) wr ∧ Hid (Keep n₀ B W wr) ∧ B < wr.heap.size) (fun i _ => l.length - (intOf i).toNat)
    case atStart => exact ⟨0, rfl, Nat.zero_le _, by simpa [FT.nodesL] using h0, Keep.refl _ _ _, hBW⟩
    case round =>
      obtain ⟨k, rfl, hk, hJk, HK, hBk⟩ := hrel
      have KW : Keep n₀ B w0 wr := HK0.out.trans HK.out
      by_cases hlt : k < l.length
      · obtain rfl := HA.out (by omega)
        obtain ⟨e0, e1, e2⟩ := HC.out k hlt
        have hbb : b ≠ B := by have := lt_of_cell e0; omega
        replace e0 := KW.2 _ _ _ hbb e0
        replace e1 := KW.2 _ _ _ hbb e1
        replace e2 := KW.2 _ _ _ hbb e2
        have HIB := Lib.hid (within_in lp n₀ B _ J Jx HJ.out HY.out w0 HT.out hn hB (HBod.out k hlt))
        have hnd := FT.nodesL_take l k hlt
        have hsp := fun x hx => FT.nodesL_split l k hlt x hx
        have hsh : ∃ a n cap, f k = .slice a n cap := by have := HSub.out k hlt; generalize f k = z at this; cases this; exact ⟨_, _, _, rfl⟩
        have hsh1 := (HBod.out k hlt).shape
        generalize hx : l.getD k default = x at e0 e1 e2 hnd HIB hsh1
        replace hsp := hsp x hx
        clear hx
        generalize f k = pv at e1 hsh
        generalize g k = pv1 at e2 HIB hsh1
        obtain ⟨s, ps, bs⟩ := x
        dsimp only at e0 e1 e2 HIB hsh1 hnd hsp
        obtain ⟨pa, pn, pc, rfl⟩ := hsh
        obtain ⟨pa1, pc1, rfl⟩ := hsh1
        have hlen : (FT.nodesL (l.take k)).length + (ST.nodesL bs 1).length ≤ (PT.nodes ⟨l, ml⟩).length := by
          show _ ≤ (FT.nodesL l ++ ST.nodesL ml 1).length
          rw [hsp]; simp; try omega
        have HLEN := Lib.hid hlen
        have HND := Lib.hid hnd
        have HSP := Lib.hid hsp
        have hBw : wr.heap.size ≠ B := by omega
        clear hlen hnd hsp
        have HJ1 : Hid (J (FT.nodesL (l.take k)) (wr.alloc (.cells #[.string s, .slice pa pn pc, .slice pa1 bs.length pc1] 35))) := HJ.out _ _ _ hJk ((Below.refl _ _).alloc (Nat.le_refl _) _)
        have HK1 : Hid (Keep n₀ B wr (wr.alloc (.cells #[.string s, .slice pa pn pc, .slice pa1 bs.length pc1] 35))) := (Keep.refl _ _ _).alloc (by omega) _
        gi_wp2_with (first
          | ((first | refine ⟨trivial, hdd _, ?_⟩ | refine ⟨hdd _, ?_⟩ | skip); gi_at_call 45; refine (HIB.out _ _ _ _ (KW.trans HK1.out) (by simp; omega) HJ1.out (by simpa using HLEN.out)).mono ?_; rintro e W5 (⟨rfl, hJ5, hk5⟩ | ⟨rfl, q', hq', hx5⟩)))
        · exact ⟨⟨k + 1, by go_num, by omega, by rw [HND.out]; exact hJ5, (HK.out.trans HK1.out).trans hk5, Nat.lt_of_lt_of_le (by simp; omega) hk5.1.size⟩, by simp [intOf]; omega⟩
        · refine bodyPost_ret (results_none rfl _ _ _) rfl ?_
          obtain ⟨r, hr⟩ := hq'
          exact ⟨⟨_, rfl⟩, .inr ⟨FT.nodesL (l.take k) ++ q', ⟨r ++ (FT.nodesL (l.drop (k + 1)) ++ ST.nodesL ml 1), by show _ = FT.nodesL l ++ ST.nodesL ml 1; rw [HSP.out, ← hr]; simp⟩, hx5⟩⟩
      · obtain rfl : k = l.length := by omega
        rw [List.take_length] at hJk
        have d0 := HK.out.2 _ _ _ hBp c0
        have d1 := HK.out.2 _ _ _ hBp c1
        gi_wp2_with (first
          | ((first | refine ⟨trivial, hdd _, ?_⟩ | refine ⟨hdd _, ?_⟩ | skip); gi_at_call 45; refine (HM.out _ _ _ _ KW hBk hJk (by show _ ≤ (FT.nodesL l ++ ST.nodesL ml 1).length; simp)).mono ?_; rintro e W5 (⟨rfl, hJ5, hk5⟩ | ⟨rfl, q', hq', hx5⟩)))
        · go_end0
          exact ⟨⟨_, rfl⟩, .inl ⟨_, rfl, hJ5⟩⟩
        · go_end0
          obtain ⟨r, hr⟩ := hq'
          exact ⟨⟨_, rfl⟩, .inr ⟨FT.nodesL l ++ q', ⟨r, by show _ = FT.nodesL l ++ ST.nodesL ml 1; rw [← hr]; simp⟩, hx5⟩⟩

set_option maxHeartbeats 1000000 in
theorem nodes_in (n : Nat) (a1 a2 : Option Addr) (n1 n2 c1 c2 : Nat) (w : World) :
    CallsIn Fence.wide n Tryd.prog 26 #[.agg #[.slice a1 n1 c1, .slice a2 n2 c2]] w fun e w' => e = .returned (.func (.func 44) #[] #[.pointer (some ⟨w.heap.size, 0, none⟩)]) ∧ w' = w.alloc (.cells #[.slice a1 n1 c1, .slice a2 n2 c2] 25) := by
  refine callsIn_of_wp Tryd.func26 rfl trivial ?_ rfl
  simp only [Tryd.ntmps26, List.size_toArray, List.length_cons, List.length_nil, Nat.reduceAdd, Nat.reduceSub, Array.replicate_succ, Array.replicate_zero, List.push_toArray, List.append_toArray, List.nil_append, List.cons_append]
  gi_wp2
  go_ret
  exact ⟨rfl, rfl⟩
theorem fresh_of {B : Nat} {J : Ns → World → Prop} (h : AbidesFrom B J) : Fresh J := fun s W W' hs hb => h s W W' none hs ⟨hb.os, hb.tape, hb.output, hb.size, fun k hk _ => hb.block k hk⟩ (fun r e => by cases e)
theorem keep_b {n₀ B : Nat} {w : World} (hn : n₀ ≤ w.heap.size) (W : World) (l : Nat) (o o' : Obj) (hl : w.heap.size ≤ l) (h : W.heap[l]? = some o) (hc : o.isCells = false) (hw : o.isWalk = false) : Keep n₀ B W (W.putObj l o') :=
  ⟨belowK_b hn W l o o' hl h hc hw, fun k i v _ hv => cell_kept hv (grownBy_putObj' W l o') (fun r e => by cases e; exact ⟨o, h, hc⟩)⟩
/-- tree.nodes hands back a value that gives all nodes, in order. -/
theorem nodes_stops (n Bp n₀ B : Nat) (fv mv : Value) (p : PT) (w0 w : World) (ht : Tab w0) (hn : w0.heap.size = n₀) (hB : n₀ ≤ B) (hp : PR w0 fv mv p) (hk : Keep n₀ B w0 w) (hBw : B < w.heap.size) (hBp : Bp ≠ B)
    (c0 : w.cell? ⟨Bp, 0, none⟩ = some fv) (c1 : w.cell? ⟨Bp, 1, none⟩ = some mv) :
    SeqStopsK Fence.wide n Tryd.prog 44 #[.pointer (some ⟨Bp, 0, none⟩)] (fun x : Bool × Int => #[nodeV x]) (Keep n₀ B) (fun ys => ys = p.nodes) (fun pre => pre <+: p.nodes) p.nodes.length w := fun l J Jx W hW hJ _ hY h0 =>
  nodes1_in l n₀ B J Jx fv mv p (fresh_of hJ) (fun m pre x W hj hl => yieldAt_any rfl m (hY pre x W hj hl)) w0 ht hn hB hp n W Bp (hk.trans (.of (by have := hk.1.size; omega) hW)) (Nat.lt_of_lt_of_le hBw hW.size) hBp
    ((hW.cell (p := ⟨Bp, 0, none⟩) (lt_of_cell c0)).trans c0) ((hW.cell (p := ⟨Bp, 1, none⟩) (lt_of_cell c1)).trans c1) h0
end Go.Proofs.YthjjcmmonjajhaaDoor
