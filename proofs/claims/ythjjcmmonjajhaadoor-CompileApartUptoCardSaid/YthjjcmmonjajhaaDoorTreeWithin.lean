/- tree.within: the recursive iterator over statements. -/
import Derived.Test.YthjjcmmonjajhaaDoorTreeIter
namespace Go.Proofs.YthjjcmmonjajhaaDoor
open Go.RowKit Go.Sort Go.Shelf
set_option linter.unusedVariables false
attribute [local go_sem] Oper.semAt_some

set_option maxRecDepth 100000 in
set_option maxHeartbeats 8000000 in
theorem within_in (lp n₀ B N : Nat) (J Jx : Ns → World → Prop) (hJ : Fresh J) (hY : Rounds lp n₀ B N J Jx) (w0 : World) (ht : Tab w0) (hn : w0.heap.size = n₀) (hB : n₀ ≤ B) {v : Value} {l : List ST} (h : SSl w0 v l) :
    ∀ (n : Nat) (d : Int) (pre : Ns) (W : World), Keep n₀ B w0 W → B < W.heap.size → J pre W → pre.length + (ST.nodesL l d).length ≤ N →
      CallsIn Fence.wide n Tryd.prog 45 #[v, .int .i64 d, .func (.yield lp) #[] #[]] W (Ends n₀ B J Jx pre (ST.nodesL l d) W) := by
  induction h with
  | mk a b off cap l f g h ha hc hm hcell hsub hbod hels ihb ihe =>
    intro n d pre W hk0 hBW hJ0 hN
    have HA := Lib.hid ha
    have HC := Lib.hid hcell
    have HIB := Lib.hid ihb
    have HIE := Lib.hid ihe
    have HN := Lib.hid hN
    have HK0 := Lib.hid hk0
    have HT := Lib.hid ht
    have HJ := Lib.hid hJ
    have HY := Lib.hid hY
    have hm' : cap ≤ 9223372036854775807 := hm
    have HSub := Lib.hid hsub
    have HBod := Lib.hid hbod
    have HEls := Lib.hid hels
    clear hcell ihb ihe hN hk0 hm hsub hbod hels ha ht hJ hY
    refine callsIn_of_wp Tryd.func45 rfl trivial ?_ rfl
    simp only [Tryd.ntmps45, List.size_toArray, List.length_cons, List.length_nil, Nat.reduceAdd, Nat.reduceSub, Array.replicate_succ, Array.replicate_zero, List.push_toArray, List.append_toArray, List.nil_append, List.cons_append]
    gi_wp2
    gi_loopw [11] (fun i wr => ∃ k : Nat, i = .int .i64 k ∧ k ≤ l.length ∧ J (pre ++ ST.nodesL (l.take k) d) wr ∧ Hid (Keep n₀ B W wr) ∧ B < wr.heap.size) (fun i _ => l.length - (intOf i).toNat)
    case atStart => exact ⟨0, rfl, Nat.zero_le _, by simpa [ST.nodesL] using hJ0, Keep.refl _ _ _, hBW⟩
    case round =>
      obtain ⟨k, rfl, hk, hJk, HK, hBk⟩ := hrel
      by_cases hlt : k < l.length
      · obtain rfl := HA.out (by omega)
        obtain ⟨e0, e1, e2, e3, e4, e5⟩ := HC.out k hlt
        have hbb : b ≠ B := by have := lt_of_cell e0; omega
        have KW : Keep n₀ B w0 wr := HK0.out.trans HK.out
        replace e0 := KW.2 _ _ _ hbb e0
        replace e1 := KW.2 _ _ _ hbb e1
        replace e2 := KW.2 _ _ _ hbb e2
        replace e3 := KW.2 _ _ _ hbb e3
        replace e4 := KW.2 _ _ _ hbb e4
        replace e5 := KW.2 _ _ _ hbb e5
        have HIL := Lib.hid (below_in lp n₀ B N J Jx HJ.out HY.out w0 HT.out hn hB (HSub.out k hlt))
        have HI1 := Lib.hid (HIB.out k hlt)
        have HI2 := Lib.hid (HIE.out k hlt)
        have HTW : Hid (Tab wr) := HT.out.below (hn ▸ KW.1)
        have hnd := ST.nodesL_take l d k hlt
        have hsp := fun x hx => ST.nodesL_split l d k hlt x hx
        have hsh := (HSub.out k hlt).shape
        have hsh1 := (HBod.out k hlt).shape
        have hsh2 := (HEls.out k hlt).shape
        generalize hx : l.getD k default = x at e0 e1 e2 e3 e4 e5 hnd HIL HI1 HI2 hsh hsh1 hsh2
        replace hsp := hsp x hx
        clear hx
        generalize f k = pv at e3 HIL hsh
        generalize g k = pv1 at e4 HI1 hsh1
        generalize h k = pv2 at e5 HI2 hsh2
        obtain ⟨o, m, s, ps, bs, es⟩ := x
        simp only [ST.op, ST.num, ST.name, ST.parts, ST.body, ST.els] at e0 e1 e2 HIL HI1 HI2 hsh hsh1 hsh2
        rw [ST.nodes_eq] at hnd hsp
        simp only [ST.op, ST.num, ST.name, ST.parts, ST.body, ST.els] at hnd hsp
        obtain ⟨pa, pc, rfl⟩ := hsh
        obtain ⟨pa1, pc1, rfl⟩ := hsh1
        obtain ⟨pa2, pc2, rfl⟩ := hsh2
        obtain ⟨q, hq⟩ : ∃ q, stmtB o m s ps.length bs.length es.length = q := ⟨_, rfl⟩
        rw [hq] at hnd hsp
        have HQ := Lib.hid hq
        have hlen : pre.length + ((ST.nodesL (l.take k) d).length + (1 + ((ET.nodesL ps (wrap64 (d + 1))).length + ((ST.nodesL bs (wrap64 (d + 1))).length + (ST.nodesL es (wrap64 (d + 1))).length)))) ≤ N := by
          have := HN.out; rw [hsp] at this; simp at this; omega
        have HLEN := Lib.hid hlen
        have HND := Lib.hid hnd
        have HSP := Lib.hid hsp
        have hBw : wr.heap.size ≠ B := by omega
        have hdd : ∀ k : Nat, (Fence.wide.depth.isSome = true → 1 ≤ k) := fun k h => by cases h
        clear hq hlen hnd hsp
        gi_wp2_with (first
          | ((first | refine ⟨trivial, hdd _, ?_⟩ | refine ⟨hdd _, ?_⟩ | skip); gi_at_call 60; refine (callsIn_wide.2 (stmt_r o m s pa pa1 pa2 ps.length pc bs.length pc1 es.length pc2 q HQ.out _ (HTW.out.below ((Below.refl _ _).alloc (Nat.le_refl _) _)))).mono ?_; rintro e W2 ⟨rfl, hb2⟩
             have hw2 : Below wr.heap.size wr W2 := ((Below.refl _ _).alloc (Nat.le_refl _) _).trans (hb2.mono (by simp))
             have c3 : W2.cell? ⟨wr.heap.size, 3, none⟩ = some (.slice pa ps.length pc) := (hb2.cell (p := ⟨wr.heap.size, 3, none⟩) (by simp)).trans (by simp)
             have c4 : W2.cell? ⟨wr.heap.size, 4, none⟩ = some (.slice pa1 bs.length pc1) := (hb2.cell (p := ⟨wr.heap.size, 4, none⟩) (by simp)).trans (by simp)
             have c5 : W2.cell? ⟨wr.heap.size, 5, none⟩ = some (.slice pa2 es.length pc2) := (hb2.cell (p := ⟨wr.heap.size, 5, none⟩) (by simp)).trans (by simp)
             have hJ2 := HJ.out _ _ _ hJk hw2
             obtain ⟨fn, tmps, assign, body, hy, hR⟩ := HY.out (n - 1) _ (q, d) W2 hJ2 (by have := HLEN.out; simp; omega)
             simp only [nodeV] at hy
             have hz2 : B < W2.heap.size := Nat.lt_of_lt_of_le hBk hw2.size
             have HW2 : Hid (Keep n₀ B wr W2) := .of (by omega) hw2
             clear hb2 hw2)
          | ((first | refine ⟨trivial, hdd _, ?_⟩ | refine ⟨hdd _, ?_⟩ | skip); refine hR.mono ?_; clear hR hy; rintro e W3 (⟨rfl, hJ3, hk3⟩ | ⟨rfl, hx3⟩)
             all_goals (try (have d3 := hk3.2 _ _ _ hBw c3; have d4 := hk3.2 _ _ _ hBw c4; have d5 := hk3.2 _ _ _ hBw c5; have HK3 : Hid (Keep n₀ B wr W3) := HW2.out.trans hk3; have hz3 := Nat.lt_of_lt_of_le hz2 hk3.1.size; clear c3 c4 c5 hk3)))
          | ((first | refine ⟨trivial, hdd _, ?_⟩ | refine ⟨hdd _, ?_⟩ | skip); gi_at_call 61; refine (HIL.out _ _ _ _ (KW.trans HK3.out) hz3 hJ3 (by have := HLEN.out; simp; omega)).mono ?_; rintro e W4 (⟨rfl, hJ4, hk4⟩ | ⟨rfl, q', hq', hx4⟩)
             all_goals (try (have f4 := hk4.2 _ _ _ hBw d4; have f5 := hk4.2 _ _ _ hBw d5; have HK4 : Hid (Keep n₀ B wr W4) := HK3.out.trans hk4; have hz4 := Nat.lt_of_lt_of_le hz3 hk4.1.size; clear d3 d4 d5 hk4)))
          | ((first | refine ⟨trivial, hdd _, ?_⟩ | refine ⟨hdd _, ?_⟩ | skip); gi_at_call 45; refine (HI1.out _ _ _ _ (KW.trans HK4.out) hz4 hJ4 (by have := HLEN.out; simp; omega)).mono ?_; clear HI1; rintro e W5 (⟨rfl, hJ5, hk5⟩ | ⟨rfl, q', hq', hx5⟩)
             all_goals (try (have g5 := hk5.2 _ _ _ hBw f5; have HK5 : Hid (Keep n₀ B wr W5) := HK4.out.trans hk5; have hz5 := Nat.lt_of_lt_of_le hz4 hk5.1.size; clear f4 f5 hk5)))
          | ((first | refine ⟨trivial, hdd _, ?_⟩ | refine ⟨hdd _, ?_⟩ | skip); gi_at_call 45; refine (HI2.out _ _ _ _ (KW.trans HK5.out) hz5 hJ5 (by have := HLEN.out; simp; omega)).mono ?_; clear HI2; rintro e W6 (⟨rfl, hJ6, hk6⟩ | ⟨rfl, q', hq', hx6⟩)))
        · exact ⟨⟨k + 1, by go_num, by omega, by rw [HND.out]; simpa [List.append_assoc] using hJ6, (HK.out.trans HK5.out).trans hk6, Nat.lt_of_lt_of_le hz5 hk6.1.size⟩, by simp [intOf]; omega⟩
        · go_ret
          obtain ⟨r, hr⟩ := hq'
          exact .inr ⟨rfl, ST.nodesL (l.take k) d ++ (q, d) :: (ET.nodesL ps (wrap64 (d + 1)) ++ (ST.nodesL bs (wrap64 (d + 1)) ++ q')), ⟨r ++ ST.nodesL (l.drop (k + 1)) d, by rw [HSP.out, ← hr]; simp⟩, by simpa [List.append_assoc] using hx6⟩
        · refine ⟨trivial, ?_⟩
          gi_wp2
          go_ret
          obtain ⟨r, hr⟩ := hq'
          exact .inr ⟨rfl, ST.nodesL (l.take k) d ++ (q, d) :: (ET.nodesL ps (wrap64 (d + 1)) ++ q'), ⟨r ++ (ST.nodesL es (wrap64 (d + 1)) ++ ST.nodesL (l.drop (k + 1)) d), by rw [HSP.out, ← hr]; simp⟩, by simpa [List.append_assoc] using hx5⟩
        · refine ⟨trivial, ?_⟩
          gi_wp2
          refine ⟨trivial, ?_⟩
          gi_wp2
          go_ret
          obtain ⟨r, hr⟩ := hq'
          exact .inr ⟨rfl, ST.nodesL (l.take k) d ++ (q, d) :: q', ⟨r ++ (ST.nodesL bs (wrap64 (d + 1)) ++ (ST.nodesL es (wrap64 (d + 1)) ++ ST.nodesL (l.drop (k + 1)) d)), by rw [HSP.out, ← hr]; simp⟩, by simpa [List.append_assoc] using hx4⟩
        · refine ⟨trivial, ?_⟩
          gi_wp2
          refine ⟨trivial, ?_⟩
          gi_wp2
          refine ⟨trivial, ?_⟩
          gi_wp2
          go_ret
          exact .inr ⟨rfl, ST.nodesL (l.take k) d ++ [(q, d)], ⟨ET.nodesL ps (wrap64 (d + 1)) ++ (ST.nodesL bs (wrap64 (d + 1)) ++ (ST.nodesL es (wrap64 (d + 1)) ++ ST.nodesL (l.drop (k + 1)) d)), by rw [HSP.out]; simp⟩, by simpa [List.append_assoc] using hx3⟩
      · obtain rfl : k = l.length := by omega
        rw [List.take_length] at hJk
        gi_wp2
        go_ret
        exact .inl ⟨rfl, hJk, HK.out⟩
end Go.Proofs.YthjjcmmonjajhaaDoor
