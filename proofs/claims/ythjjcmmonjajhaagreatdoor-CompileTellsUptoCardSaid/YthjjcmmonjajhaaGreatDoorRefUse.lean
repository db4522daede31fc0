/- The reference's uses: the names of expressions and statements, as they stand. -/
import Derived.Test.YthjjcmmonjajhaaGreatDoorRefs
import Derived.Test.YthjjcmmonjajhaaGreatDoorFlows
namespace Go.Proofs.YthjjcmmonjajhaaGreatDoor
open Go.RowKit Go.Sort
set_option linter.unusedVariables false

/-- A name as it stands. -/
structure VU where
  kind : Int
  parts : Int
  name : ByteArray
instance : Inhabited VU := ⟨⟨0, 0, ByteArray.empty⟩⟩
def ownU (o : Int) (s : ByteArray) (k : Nat) : List VU := if o = 2 then [⟨1, 0, s⟩] else if o = 4 then [⟨2, 0, s⟩] else if o = 5 then [⟨4, k, s⟩] else []
mutual
def ET.uses : ET → List VU
  | .mk o n s l => ownU o s l.length ++ ET.usesL l
def ET.usesL : List ET → List VU
  | [] => []
  | e :: r => ET.uses e ++ ET.usesL r
end
def ownV (o : Int) (s : ByteArray) : List VU := if o = 1 ∨ o = 4 then [⟨1, 0, s⟩] else if o = 2 then [⟨2, 0, s⟩] else if o = 3 then [⟨3, 0, s⟩] else []
mutual
def ST.uses : ST → List VU
  | .mk o n s l b e => ownV o s ++ ET.usesL l ++ ST.usesL b ++ ST.usesL e
def ST.usesL : List ST → List VU
  | [] => []
  | s :: r => ST.uses s ++ ST.usesL r
end
theorem ET.usesL_append (l r : List ET) : ET.usesL (l ++ r) = ET.usesL l ++ ET.usesL r := by
  induction l with
  | nil => rfl
  | cons e l ih => simp only [List.cons_append, ET.usesL, ih, List.append_assoc]
theorem ST.usesL_append (l r : List ST) : ST.usesL (l ++ r) = ST.usesL l ++ ST.usesL r := by
  induction l with
  | nil => rfl
  | cons e l ih => simp only [List.cons_append, ST.usesL, ih, List.append_assoc]
theorem ET.usesL_take (l : List ET) (k : Nat) (h : k < l.length) : ET.usesL (l.take (k + 1)) = ET.usesL (l.take k) ++ (ownU (l.getD k default).op (l.getD k default).name (l.getD k default).parts.length ++ ET.usesL (l.getD k default).parts) := by
  rw [take_next l default k h, ET.usesL_append]
  have : ET.uses (l.getD k default) = ownU (l.getD k default).op (l.getD k default).name (l.getD k default).parts.length ++ ET.usesL (l.getD k default).parts := by cases l.getD k default; rfl
  rw [← this]; simp [ET.usesL]
theorem ST.usesL_take (l : List ST) (k : Nat) (h : k < l.length) : ST.usesL (l.take (k + 1)) = ST.usesL (l.take k) ++ (ownV (l.getD k default).op (l.getD k default).name ++ ET.usesL (l.getD k default).parts ++ ST.usesL (l.getD k default).body ++ ST.usesL (l.getD k default).els) := by
  rw [take_next l default k h, ST.usesL_append]
  have : ST.uses (l.getD k default) = ownV (l.getD k default).op (l.getD k default).name ++ ET.usesL (l.getD k default).parts ++ ST.usesL (l.getD k default).body ++ ST.usesL (l.getD k default).els := by cases l.getD k default; rfl
  rw [← this]; simp [ST.usesL]
theorem ET.usesL_part (l : List ET) (k : Nat) (h : k < l.length) : (ET.usesL (l.take k)).length + (ownU (l.getD k default).op (l.getD k default).name (l.getD k default).parts.length ++ ET.usesL (l.getD k default).parts).length ≤ (ET.usesL l).length := by
  have h1 := congrArg List.length (ET.usesL_take l k h)
  have h2 : ET.usesL l = ET.usesL (l.take (k + 1)) ++ ET.usesL (l.drop (k + 1)) := by rw [← ET.usesL_append, List.take_append_drop]
  rw [List.length_append] at h1
  have h3 := congrArg List.length h2
  rw [List.length_append] at h3
  omega
theorem ST.usesL_part (l : List ST) (k : Nat) (h : k < l.length) : (ST.usesL (l.take k)).length + (ownV (l.getD k default).op (l.getD k default).name ++ ET.usesL (l.getD k default).parts ++ ST.usesL (l.getD k default).body ++ ST.usesL (l.getD k default).els).length ≤ (ST.usesL l).length := by
  have h1 := congrArg List.length (ST.usesL_take l k h)
  have h2 : ST.usesL l = ST.usesL (l.take (k + 1)) ++ ST.usesL (l.drop (k + 1)) := by rw [← ST.usesL_append, List.take_append_drop]
  rw [List.length_append] at h1
  have h3 := congrArg List.length h2
  rw [List.length_append] at h3
  omega
def useC (u : VU) : List Value := [.int .i64 u.kind, .int .i64 u.parts, .string u.name]
def useR (l : List VU) : List Value := l.flatMap useC
theorem useR_append (l r : List VU) : useR (l ++ r) = useR l ++ useR r := by simp [useR]
theorem useR_length (l : List VU) : (useR l).length = l.length * 3 := by
  induction l with
  | nil => rfl
  | cons x l ih => simp [useR] at ih ⊢; rw [ih]; simp [useC]; omega
theorem useR_one (u : VU) : useR [u] = [.int .i64 u.kind, .int .i64 u.parts, .string u.name] := by simp [useR, useC]
theorem useR_ones (l : List VU) : ∀ u ∈ useR l, u.oneCell' = true := by
  intro u hu
  unfold useR at hu
  obtain ⟨i, _, hi⟩ := List.mem_flatMap.1 hu
  simp [useC] at hi
  rcases hi with rfl | rfl | rfl <;> rfl
theorem useR_at (l : List VU) (i j : Nat) (hi : i < l.length) (hj : j < 3) : (useR l)[i * 3 + j]? = (useC (l.getD i default))[j]? := by
  induction l generalizing i with
  | nil => simp at hi
  | cons x l ih =>
    have e : useR (x :: l) = useC x ++ useR l := by simp [useR]
    rw [e]
    cases i with
    | zero => rw [List.getElem?_append_left (by show _ < 3; omega)]; simp
    | succ i =>
      rw [List.getElem?_append_right (by show 3 ≤ _; omega)]
      have : (i + 1) * 3 + j - (useC x).length = i * 3 + j := by show (i + 1) * 3 + j - 3 = _; omega
      rw [this, ih i (by simpa using hi)]; simp
def OwnU (base : Nat) (w : World) (v : Value) (l : List VU) : Prop := w.ownsRow base 114 3 v l.length (useR l)
theorem OwnU.stay {base : Nat} {w w' : World} {v : Value} {l : List VU} (h : OwnU base w v l) (hb : Below w.heap.size w w') : OwnU base w' v l := own_hold9 h hb
theorem OwnU.src {base : Nat} {w : World} {a : Option Addr} {n c : Nat} {l : List VU} (h : w.ownsRow base 114 3 (.slice a n c) n (useR l)) : ∃ b off, At a n b off ∧ ∀ j u, (useR l)[j]? = some u → w.cell? ⟨b, off + j, none⟩ = some u := by
  have h' := h
  obtain ⟨hl, ⟨h1, h2⟩ | ⟨g, cap, cur, h1, h2, h3⟩⟩ := h
  · subst h2
    refine ⟨0, 0, fun h => absurd h (by omega), fun j u hj => ?_⟩
    have := (List.getElem?_eq_some_iff.1 hj).1
    omega
  · cases h1
    refine ⟨g, 0, fun _ => rfl, fun j u hj => ?_⟩
    have hj' := (List.getElem?_eq_some_iff.1 hj).1
    rw [Nat.zero_add, own_cell h' j (by omega), hj]
theorem infoU : (Tryz.prog.info? 114).map (fun i => (i.zero, i.size, i.bytes)) = some (some (.agg #[.int .i64 0, .int .i64 0, .string ⟨#[]⟩]), 3, 32) := by kernel_rfl
def PHu (x : VU) (v : Value) (w : World) : Prop := ∃ g, v = .slice (some ⟨g, 0, none⟩) 1 1 ∧ w.heap[g]? = some (.cells #[.int .i64 x.kind, .int .i64 x.parts, .string x.name] 114 (0, 0))
theorem PHu.stay {x : VU} {v : Value} {w w' : World} (h : PHu x v w) (hb : Below w.heap.size w w') : PHu x v w' := by
  obtain ⟨g, e, q⟩ := h
  exact ⟨g, e, (hb.block g (lt_of_heap q)).trans q⟩


set_option maxHeartbeats 16000000 in
set_option maxRecDepth 1000000 in
theorem ruse_in (w0 : World) {lv : Value} {l : List ET} (h : ESl w0 lv l) : (ET.usesL l).length ≤ 10000000 → ∀ w, Below w0.heap.size w0 w → Calls Tryz.prog 71 #[lv] w fun e w' => ∃ v, e = .returned v ∧ Below w.heap.size w w' ∧ OwnU w.heap.size w' v (ET.usesL l) := by
  induction h with
  | mk a b off cap l f ha hc hmx hcell hsub ih =>
  intro hlen w hw
  obtain ⟨iT, hi, hz0, hz1, hz2⟩ := info_parts infoU
  have hm1 : cap ≤ 9223372036854775807 := hmx
  have HA := Lib.hid ha
  have HI := Lib.hid hcell
  have HS := Lib.hid hsub
  have HIH := Lib.hid ih
  have HW := Lib.hid hw
  have HLEN := Lib.hid hlen
  clear ha hcell hsub ih hw hlen hmx
  go_enter Tryz.func71, Tryz.ntmps71
  go_wp2
  go_loopw [3, 4] (fun v i wr => ∃ j : Nat, i = .int .i64 j ∧ j ≤ l.length ∧ Hid (Below w.heap.size w wr) ∧ Hid (OwnU w.heap.size wr v (ET.usesL (l.take j)))) (fun _ i _ => l.length - (intOf i).toNat)
  case atStart => exact ⟨0, rfl, Nat.zero_le _, Below.refl _ _, World.ownsRow_nil _ _ _ _⟩
  case round =>
    obtain ⟨j, rfl, hjl, HB, HOU⟩ := hrel
    obtain ⟨la, lc, rfl⟩ := own_shape HOU.out
    by_cases hlt : j < l.length
    · obtain rfl := HA.out (by omega)
      obtain ⟨p0, _, p2, p3⟩ := HI.out j hlt
      have hz : b < w0.heap.size := lt_of_cell p0
      have hB0 : Below w0.heap.size w0 wr := HW.out.trans (HB.out.mono HW.out.size)
      replace p0 := (hB0.cell (p := ⟨b, off + j * 4, none⟩) hz).trans p0
      replace p2 := (hB0.cell (p := ⟨b, off + j * 4 + 2, none⟩) hz).trans p2
      have hz3 : ∀ W, Below w.heap.size w W → W.cell? ⟨b, off + j * 4 + 3, none⟩ = some (f j) := fun W hW => ((HW.out.trans (hW.mono HW.out.size)).cell (p := ⟨b, off + j * 4 + 3, none⟩) hz).trans p3
      replace p3 := (hB0.cell (p := ⟨b, off + j * 4 + 3, none⟩) hz).trans p3
      have hT := ET.usesL_take l j hlt
      have hP := ET.usesL_part l j hlt
      have hI := HIH.out j hlt (by have := HLEN.out; rw [List.length_append] at hP; omega)
      obtain ⟨qa, qc, hq, hq1, hq2⟩ := (HS.out j hlt).shape0'
      rw [hq] at p3 hI hz3
      clear hq
      generalize l.getD j default = x at p0 p2 p3 hI hT hP hq1 hz3
      obtain ⟨xo, xn, xs, xp⟩ := x
      dsimp only [ET.op, ET.name, ET.parts] at p0 p2 p3 hI hT hP hq1 hz3
      obtain ⟨L, hL⟩ : ∃ y, ET.usesL (l.take j) = y := ⟨_, rfl⟩
      obtain ⟨X, hX⟩ : ∃ y, ET.usesL xp = y := ⟨_, rfl⟩
      rw [hL] at hT hP HOU ⊢
      rw [hX] at hT hP hI
      obtain ⟨ol, hol⟩ : ∃ y, L.length = y := ⟨_, rfl⟩
      obtain ⟨xl, hxl⟩ : ∃ y, X.length = y := ⟨_, rfl⟩
      have HO : Hid (wr.ownsRow w.heap.size 114 3 (.slice la ol lc) ol (useR L)) := by have := HOU.out; unfold OwnU at this; rw [hol] at this; exact this
      rw [List.length_append, hol, hxl] at hP
      rw [hol]
      have hlen := HLEN.out
      have HCE := Lib.hid hI
      have HT := Lib.hid hT
      have HXL := Lib.hid hxl
      have HOL := Lib.hid hol
      have HL := Lib.hid hL
      have hjI : (j : Int) < l.length := by omega
      generalize xp.length = pl at p3 hI HCE HT hP hq1 hz3
      have Z3 := Lib.hid hz3
      clear hz3
      clear HOU hI hT hL hX hol hxl hz hB0
      have hc4 : (xo = 2) ∨ ((xo == 2) = false ∧ xo = 4) ∨ ((xo == 2) = false ∧ (xo == 4) = false ∧ xo = 5) ∨ ((xo == 2) = false ∧ (xo == 4) = false ∧ (xo == 5) = false ∧ xo ≠ 2 ∧ xo ≠ 4 ∧ xo ≠ 5) := by
        by_cases h1 : xo = 2
        · exact .inl h1
        · by_cases h2 : xo = 4
          · exact .inr (.inl ⟨by simpa using h1, h2⟩)
          · by_cases h3 : xo = 5
            · exact .inr (.inr (.inl ⟨by simpa using h1, by simpa using h2, h3⟩))
            · exact .inr (.inr (.inr ⟨by simpa using h1, by simpa using h2, by simpa using h3, h1, h2, h3⟩))
      rcases hc4 with rfl | ⟨h1, rfl⟩ | ⟨h1, h2, rfl⟩ | ⟨h1, h2, h3, h4, h5, h6⟩
      · have hu1 : (ownU 2 xs pl).length = 1 := rfl
        rw [hu1] at hP
        clear hu1
        have HC := Lib.hid (cell3_new wr (.int .i64 1) (.int .i64 0) (.string xs) 114)
        have HOA := Lib.hid (HO.out.alloc (.cells #[.int .i64 1, .int .i64 0, .string xs] 114))
        have HBA1 : Hid (Below w.heap.size w (wr.alloc (.cells #[.int .i64 1, .int .i64 0, .string xs] 114))) := HB.out.alloc HB.out.size _
        go_wp2_with (first
          | (at_builtin; refine wpList_append_own _ rfl _ _ 111 rfl w.heap.size 114 iT (.agg #[.int .i64 0, .int .i64 0, .string ⟨#[]⟩]) 3 32 Tryz.underlying111 hi hz0 hz1 hz2 rfl (by decide) _ _ _ rfl HOA.out ⟨wr.heap.size, 0, none⟩ 1 1 [.int .i64 1, .int .i64 0, .string xs] rfl rfl HC.out (by simp [Value.oneCell']) (by unfold maxLen; omega) (by omega) HBA1.out.size ?_; intro v3 w3 hown' hgrow _; obtain ⟨g', cap', rfl⟩ := ownsRow_succ' hown'; have HO3 := Lib.hid hown'; have HB3 : Hid (Below w.heap.size w w3) := below_own9 HBA1.out HBA1.out.size HOA.out hgrow; have z3 := Z3.out w3 HB3.out; clear hown' hgrow HOA)
          | (go_at_call 71; refine (HCE.out _ (HW.out.trans (HB3.out.mono HW.out.size))).mono ?_; rintro e wa1 ⟨va1, rfl, hb, ho⟩; obtain ⟨ya1, yc1, hvs⟩ := own_shape ho; have hl := HXL.out; unfold OwnU at ho; rw [hl] at hvs ho; clear hl; subst hvs; obtain ⟨yb1, yo1, hya, hyc⟩ := OwnU.src ho; have HYA1 := Lib.hid hya; have HYC1 := Lib.hid hyc; have HBc1 : Hid (Below w.heap.size w wa1) := hb_step HB3 hb; have HOc1 := Lib.hid (own_hold9 HO3.out hb); clear hb ho hya hyc HCE)
          | (at_builtin; refine wpList_append_any _ rfl _ _ 111 rfl w.heap.size 114 iT (.agg #[.int .i64 0, .int .i64 0, .string ⟨#[]⟩]) 3 32 Tryz.underlying111 hi hz0 hz1 hz2 rfl (by decide) _ _ _ rfl HOc1.out ya1 yb1 yo1 xl yc1 rfl HYA1.out (useR X) (by rw [useR_length, HXL.out]) HYC1.out (useR_ones _) (by unfold maxLen; omega) (by omega) HBc1.out.size ?_; intro vb1 wb1 hown' hgrow; have HOd1 := Lib.hid hown'; have HBd1 : Hid (Below w.heap.size w wb1) := below_own9 HBc1.out HBc1.out.size HOc1.out hgrow; clear hown' hgrow HOc1))
        go_roundw
        case rel =>
          refine ⟨j + 1, by go_num, by omega, HBd1, ?_⟩
          have hu : ownU 2 xs pl = [⟨1, 0, xs⟩] := rfl
          have h := HOd1.out
          show World.ownsRow _ _ _ _ _ _ _
          rw [HT.out, hu, useR_append, useR_append, useR_one, List.length_append, List.length_append, HOL.out, HXL.out, ← List.append_assoc, List.length_singleton, ← Nat.add_assoc]
          exact h
        case measure => simp [intOf]; omega
      · have hu1 : (ownU 4 xs pl).length = 1 := rfl
        rw [hu1] at hP
        clear hu1
        have HC := Lib.hid (cell3_new wr (.int .i64 2) (.int .i64 0) (.string xs) 114)
        have HOA := Lib.hid (HO.out.alloc (.cells #[.int .i64 2, .int .i64 0, .string xs] 114))
        have HBA1 : Hid (Below w.heap.size w (wr.alloc (.cells #[.int .i64 2, .int .i64 0, .string xs] 114))) := HB.out.alloc HB.out.size _
        go_wp2_with (first
          | (at_builtin; refine wpList_append_own _ rfl _ _ 111 rfl w.heap.size 114 iT (.agg #[.int .i64 0, .int .i64 0, .string ⟨#[]⟩]) 3 32 Tryz.underlying111 hi hz0 hz1 hz2 rfl (by decide) _ _ _ rfl HOA.out ⟨wr.heap.size, 0, none⟩ 1 1 [.int .i64 2, .int .i64 0, .string xs] rfl rfl HC.out (by simp [Value.oneCell']) (by unfold maxLen; omega) (by omega) HBA1.out.size ?_; intro v3 w3 hown' hgrow _; obtain ⟨g', cap', rfl⟩ := ownsRow_succ' hown'; have HO3 := Lib.hid hown'; have HB3 : Hid (Below w.heap.size w w3) := below_own9 HBA1.out HBA1.out.size HOA.out hgrow; have z3 := Z3.out w3 HB3.out; clear hown' hgrow HOA)
          | (go_at_call 71; refine (HCE.out _ (HW.out.trans (HB3.out.mono HW.out.size))).mono ?_; rintro e wa1 ⟨va1, rfl, hb, ho⟩; obtain ⟨ya1, yc1, hvs⟩ := own_shape ho; have hl := HXL.out; unfold OwnU at ho; rw [hl] at hvs ho; clear hl; subst hvs; obtain ⟨yb1, yo1, hya, hyc⟩ := OwnU.src ho; have HYA1 := Lib.hid hya; have HYC1 := Lib.hid hyc; have HBc1 : Hid (Below w.heap.size w wa1) := hb_step HB3 hb; have HOc1 := Lib.hid (own_hold9 HO3.out hb); clear hb ho hya hyc HCE)
          | (at_builtin; refine wpList_append_any _ rfl _ _ 111 rfl w.heap.size 114 iT (.agg #[.int .i64 0, .int .i64 0, .string ⟨#[]⟩]) 3 32 Tryz.underlying111 hi hz0 hz1 hz2 rfl (by decide) _ _ _ rfl HOc1.out ya1 yb1 yo1 xl yc1 rfl HYA1.out (useR X) (by rw [useR_length, HXL.out]) HYC1.out (useR_ones _) (by unfold maxLen; omega) (by omega) HBc1.out.size ?_; intro vb1 wb1 hown' hgrow; have HOd1 := Lib.hid hown'; have HBd1 : Hid (Below w.heap.size w wb1) := below_own9 HBc1.out HBc1.out.size HOc1.out hgrow; clear hown' hgrow HOc1))
        go_roundw
        case rel =>
          refine ⟨j + 1, by go_num, by omega, HBd1, ?_⟩
          have hu : ownU 4 xs pl = [⟨2, 0, xs⟩] := rfl
          have h := HOd1.out
          show World.ownsRow _ _ _ _ _ _ _
          rw [HT.out, hu, useR_append, useR_append, useR_one, List.length_append, List.length_append, HOL.out, HXL.out, ← List.append_assoc, List.length_singleton, ← Nat.add_assoc]
          exact h
        case measure => simp [intOf]; omega
      · have hu1 : (ownU 5 xs pl).length = 1 := rfl
        rw [hu1] at hP
        clear hu1
        have P2 := Lib.hid p2
        have P3 := Lib.hid p3
        go_wp2_with fail
        clear p0 p2 p3
        refine region_flow2 rfl 14 rfl (by decide +kernel) (by decide +kernel) [40, 41, 42, 43, 44, 45, 46, 47, 48, 49, 50, 51, 52, 53] (by decide +kernel) rfl (by decide) (by simp) (fun w w' => Below w.heap.size w w') (fun w => Below wr.heap.size wr w)
          (PhiAt 13 (PHu ⟨4, pl, xs⟩) [.slice la ol lc, .slice (some ⟨b, off, none⟩) l.length cap, .int .i64 (j : Int), .pointer (some ⟨b, off + j * 4, none⟩), .pointer (some ⟨b, off + j * 4 + 2, none⟩), .string xs, .slice (some ⟨b, off, none⟩) l.length cap, .int .i64 (j : Int), .pointer (some ⟨b, off + j * 4, none⟩), .pointer (some ⟨b, off + j * 4 + 3, none⟩), .slice qa pl qc, .int .i64 (pl : Int), .agg #[.int .i64 4, .int .i64 (pl : Int), .string xs], undef]) (fun j v w w' hS hh => hh.mono (fun h => h.stay hS)) ?hr11 ?hs11 ?hl11
        case hs11 =>
          intro ix hix a wx hR hout hdep
          have hix' : ix = 0 ∨ ix = 1 ∨ ix = 2 ∨ ix = 3 ∨ ix = 4 ∨ ix = 5 ∨ ix = 6 ∨ ix = 7 ∨ ix = 8 ∨ ix = 9 ∨ ix = 10 ∨ ix = 11 ∨ ix = 12 ∨ ix = 13 := by omega
          rcases hix' with rfl | rfl | rfl | rfl | rfl | rfl | rfl | rfl | rfl | rfl | rfl | rfl | rfl | rfl
          · have HR := Lib.hid hR
            clear hR
            have e3 := hout 3 (by decide)
            clear hout hdep
            refine op_list (by rfl) ?_
            go_wp2
            exact withK_intro ⟨_, rfl, Below.refl _ _, HR.out, PhiAt.known (by decide)⟩
          · have HR := Lib.hid hR
            clear hR
            have e0 := hout 0 (by decide)
            clear hout hdep
            refine op_list (by rfl) ?_
            go_wp2
            exact withK_intro ⟨_, rfl, Below.refl _ _, HR.out, PhiAt.known (by decide)⟩
          · have HR := Lib.hid hR
            clear hR
            have e4 := hout 4 (by decide)
            clear hout hdep
            refine op_list (by rfl) ?_
            go_wp2
            exact withK_intro ⟨_, rfl, Below.refl _ _, HR.out, PhiAt.known (by decide)⟩
          · have HR := Lib.hid hR
            clear hR
            have e41 : a.tmps[41]? = some (.slice (some ⟨b, off, none⟩) l.length cap) := flow_dep1 hdep 1 41 (by kernel_rfl) rfl (by decide)
            have e42 : a.tmps[42]? = some (.int .i64 (j : Int)) := flow_dep1 hdep 2 42 (by kernel_rfl) rfl (by decide)
            clear hout hdep
            refine op_list (by rfl) ?_
            go_wp2
            exact withK_intro ⟨_, rfl, Below.refl _ _, HR.out, PhiAt.known (by decide)⟩
          · have HR := Lib.hid hR
            clear hR
            have e43 : a.tmps[43]? = some (.pointer (some ⟨b, off + j * 4, none⟩)) := flow_dep1 hdep 3 43 (by kernel_rfl) rfl (by decide)
            clear hout hdep
            refine op_list (by rfl) ?_
            go_wp2
            exact withK_intro ⟨_, rfl, Below.refl _ _, HR.out, PhiAt.known (by decide)⟩
          · have HR := Lib.hid hR
            clear hR
            have e44 : a.tmps[44]? = some (.pointer (some ⟨b, off + j * 4 + 2, none⟩)) := flow_dep1 hdep 4 44 (by kernel_rfl) rfl (by decide)
            have z0 := cellB' HR P2.out
            clear hout hdep
            refine op_list (by rfl) ?_
            go_wp2
            exact withK_intro ⟨_, rfl, Below.refl _ _, HR.out, PhiAt.known (by decide)⟩
          · have HR := Lib.hid hR
            clear hR
            have e0 := hout 0 (by decide)
            clear hout hdep
            refine op_list (by rfl) ?_
            go_wp2
            exact withK_intro ⟨_, rfl, Below.refl _ _, HR.out, PhiAt.known (by decide)⟩
          · have HR := Lib.hid hR
            clear hR
            have e4 := hout 4 (by decide)
            clear hout hdep
            refine op_list (by rfl) ?_
            go_wp2
            exact withK_intro ⟨_, rfl, Below.refl _ _, HR.out, PhiAt.known (by decide)⟩
          · have HR := Lib.hid hR
            clear hR
            have e46 : a.tmps[46]? = some (.slice (some ⟨b, off, none⟩) l.length cap) := flow_dep1 hdep 6 46 (by kernel_rfl) rfl (by decide)
            have e47 : a.tmps[47]? = some (.int .i64 (j : Int)) := flow_dep1 hdep 7 47 (by kernel_rfl) rfl (by decide)
            clear hout hdep
            refine op_list (by rfl) ?_
            go_wp2
            exact withK_intro ⟨_, rfl, Below.refl _ _, HR.out, PhiAt.known (by decide)⟩
          · have HR := Lib.hid hR
            clear hR
            have e48 : a.tmps[48]? = some (.pointer (some ⟨b, off + j * 4, none⟩)) := flow_dep1 hdep 8 48 (by kernel_rfl) rfl (by decide)
            clear hout hdep
            refine op_list (by rfl) ?_
            go_wp2
            exact withK_intro ⟨_, rfl, Below.refl _ _, HR.out, PhiAt.known (by decide)⟩
          · have HR := Lib.hid hR
            clear hR
            have e49 : a.tmps[49]? = some (.pointer (some ⟨b, off + j * 4 + 3, none⟩)) := flow_dep1 hdep 9 49 (by kernel_rfl) rfl (by decide)
            have z0 := cellB' HR P3.out
            clear hout hdep
            refine op_list (by rfl) ?_
            go_wp2
            exact withK_intro ⟨_, rfl, Below.refl _ _, HR.out, PhiAt.known (by decide)⟩
          · have HR := Lib.hid hR
            clear hR
            have e50 : a.tmps[50]? = some (.slice qa pl qc) := flow_dep1 hdep 10 50 (by kernel_rfl) rfl (by decide)
            clear hout hdep
            refine op_list (by rfl) ?_
            go_wp2
            exact withK_intro ⟨_, rfl, Below.refl _ _, HR.out, PhiAt.known (by decide)⟩
          · have HR := Lib.hid hR
            clear hR
            have e45 : a.tmps[45]? = some (.string xs) := flow_dep1 hdep 5 45 (by kernel_rfl) rfl (by decide)
            have e51 : a.tmps[51]? = some (.int .i64 (pl : Int)) := flow_dep1 hdep 11 51 (by kernel_rfl) rfl (by decide)
            clear hout hdep
            refine op_list (by rfl) ?_
            go_wp2
            exact withK_intro ⟨_, rfl, Below.refl _ _, HR.out, PhiAt.known (by decide)⟩
          · have HR := Lib.hid hR
            clear hR
            have e52 : a.tmps[52]? = some (.agg #[.int .i64 4, .int .i64 (pl : Int), .string xs]) := flow_dep1 hdep 12 52 (by kernel_rfl) rfl (by decide)
            clear hout hdep
            refine op_list (by rfl) ?_
            go_wp2
            exact withK_intro ⟨_, rfl, (Below.refl _ _).alloc (Nat.le_refl _) _, HR.out.alloc HR.out.size _, PhiAt.one ⟨_, rfl, heap_alloc_new _ _⟩⟩
        case hl11 =>
          intro vs wx hR hφ
          have HR := Lib.hid hR
          clear hR
          obtain ⟨g, hg9, hgh⟩ := (hφ 13 (by omega)).1 rfl
          rw [fill_congr _ [40, 41, 42, 43, 44, 45, 46, 47, 48, 49, 50, 51, 52, 53] vs (fun jx => ([.slice la ol lc, .slice (some ⟨b, off, none⟩) l.length cap, .int .i64 (j : Int), .pointer (some ⟨b, off + j * 4, none⟩), .pointer (some ⟨b, off + j * 4 + 2, none⟩), .string xs, .slice (some ⟨b, off, none⟩) l.length cap, .int .i64 (j : Int), .pointer (some ⟨b, off + j * 4, none⟩), .pointer (some ⟨b, off + j * 4 + 3, none⟩), .slice qa pl qc, .int .i64 (pl : Int), .agg #[.int .i64 4, .int .i64 (pl : Int), .string xs], .slice (some ⟨g, 0, none⟩) 1 1] : List Value).getD jx undef) (fun jx hj => by
            by_cases e : jx = 13
            · subst e; assumption
            · have hj' : jx = 0 ∨ jx = 1 ∨ jx = 2 ∨ jx = 3 ∨ jx = 4 ∨ jx = 5 ∨ jx = 6 ∨ jx = 7 ∨ jx = 8 ∨ jx = 9 ∨ jx = 10 ∨ jx = 11 ∨ jx = 12 := by simp at hj; omega
              rw [(hφ jx hj).2 e]
              rcases hj' with rfl | rfl | rfl | rfl | rfl | rfl | rfl | rfl | rfl | rfl | rfl | rfl | rfl <;> rfl)]
          clear hφ
          have hxs := own_hold9 HO.out HR.out
          have HBx : Hid (Below w.heap.size w wx) := hb_step HB HR.out
          refine op_list (by rfl) ?_
          refine wpList_append_own _ rfl _ _ 111 rfl w.heap.size 114 iT (.agg #[.int .i64 0, .int .i64 0, .string ⟨#[]⟩]) 3 32 Tryz.underlying111 hi hz0 hz1 hz2 rfl (by decide) (.slice la ol lc) ol (useR L) (eval_fill2 _ _ _ 0 40 (by decide) rfl rfl) hxs ⟨g, 0, none⟩ 1 1 [.int .i64 4, .int .i64 pl, .string xs] (eval_fill2 _ _ _ 13 53 (by decide) rfl rfl) rfl (fun i u hu => by rw [addr_add0, Nat.zero_add, cell_of_heap hgh, ← hu]; simp) (by simp [Value.oneCell']) (by unfold maxLen; omega) (by omega) HBx.out.size ?_
          intro v3 w3 hown' hgrow _
          obtain ⟨g', cap', rfl⟩ := ownsRow_succ' hown'
          have HO3 := Lib.hid hown'
          have HB3 : Hid (Below w.heap.size w w3) := below_own9 HBx.out HBx.out.size hxs hgrow
          have z3 : w3.cell? ⟨b, off + j * 4 + 3, none⟩ = some (.slice qa pl qc) := Z3.out w3 HB3.out
          clear hown' hgrow hxs hgh hg9
          simp only [fill, fillA, List.getD_cons_zero, List.getD_cons_succ, Nat.reduceAdd, List.setIfInBounds_toArray, List.set_cons_succ, List.set_cons_zero]
          go_wp2
          refine withK_intro ?_
          refine op_list (by rfl) ?_
          go_wp2
          refine withK_intro ?_
          go_wp2_with (first
          | (go_at_call 71; refine (HCE.out _ (HW.out.trans (HB3.out.mono HW.out.size))).mono ?_; rintro e wa1 ⟨va1, rfl, hb, ho⟩; obtain ⟨ya1, yc1, hvs⟩ := own_shape ho; have hl := HXL.out; unfold OwnU at ho; rw [hl] at hvs ho; clear hl; subst hvs; obtain ⟨yb1, yo1, hya, hyc⟩ := OwnU.src ho; have HYA1 := Lib.hid hya; have HYC1 := Lib.hid hyc; have HBc1 : Hid (Below w.heap.size w wa1) := hb_step HB3 hb; have HOc1 := Lib.hid (own_hold9 HO3.out hb); clear hb ho hya hyc HCE)
          | (at_builtin; refine wpList_append_any _ rfl _ _ 111 rfl w.heap.size 114 iT (.agg #[.int .i64 0, .int .i64 0, .string ⟨#[]⟩]) 3 32 Tryz.underlying111 hi hz0 hz1 hz2 rfl (by decide) _ _ _ rfl HOc1.out ya1 yb1 yo1 xl yc1 rfl HYA1.out (useR X) (by rw [useR_length, HXL.out]) HYC1.out (useR_ones _) (by unfold maxLen; omega) (by omega) HBc1.out.size ?_; intro vb1 wb1 hown' hgrow; have HOd1 := Lib.hid hown'; have HBd1 : Hid (Below w.heap.size w wb1) := below_own9 HBc1.out HBc1.out.size HOc1.out hgrow; clear hown' hgrow HOc1))
          go_roundw
          case rel =>
            refine ⟨j + 1, by go_num, by omega, HBd1, ?_⟩
            have hu : ownU 5 xs pl = [⟨4, pl, xs⟩] := rfl
            have h := HOd1.out
            show World.ownsRow _ _ _ _ _ _ _
            rw [HT.out, hu, useR_append, useR_append, useR_one, List.length_append, List.length_append, HOL.out, HXL.out, ← List.append_assoc, List.length_singleton, ← Nat.add_assoc]
            exact h
          case measure => simp [intOf]; omega
        case hr11 => exact (Below.refl _ _).drew
      · have hu1 : (ownU xo xs pl).length = 0 := by unfold ownU; rw [if_neg h4, if_neg h5, if_neg h6]; rfl
        rw [hu1] at hP
        clear hu1
        go_wp2_with (first
          | (go_at_call 71; refine (HCE.out _ (HW.out.trans (HB.out.mono HW.out.size))).mono ?_; rintro e wa1 ⟨va1, rfl, hb, ho⟩; obtain ⟨ya1, yc1, hvs⟩ := own_shape ho; have hl := HXL.out; unfold OwnU at ho; rw [hl] at hvs ho; clear hl; subst hvs; obtain ⟨yb1, yo1, hya, hyc⟩ := OwnU.src ho; have HYA1 := Lib.hid hya; have HYC1 := Lib.hid hyc; have HBc1 : Hid (Below w.heap.size w wa1) := hb_step HB hb; have HOc1 := Lib.hid (own_hold9 HO.out hb); clear hb ho hya hyc HCE)
          | (at_builtin; refine wpList_append_any _ rfl _ _ 111 rfl w.heap.size 114 iT (.agg #[.int .i64 0, .int .i64 0, .string ⟨#[]⟩]) 3 32 Tryz.underlying111 hi hz0 hz1 hz2 rfl (by decide) _ _ _ rfl HOc1.out ya1 yb1 yo1 xl yc1 rfl HYA1.out (useR X) (by rw [useR_length, HXL.out]) HYC1.out (useR_ones _) (by unfold maxLen; omega) (by omega) HBc1.out.size ?_; intro vb1 wb1 hown' hgrow; have HOd1 := Lib.hid hown'; have HBd1 : Hid (Below w.heap.size w wb1) := below_own9 HBc1.out HBc1.out.size HOc1.out hgrow; clear hown' hgrow HOc1))
        go_roundw
        case rel =>
          refine ⟨j + 1, by go_num, by omega, HBd1, ?_⟩
          have hu : ownU xo xs pl = [] := by unfold ownU; rw [if_neg h4, if_neg h5, if_neg h6]
          have h := HOd1.out
          show World.ownsRow _ _ _ _ _ _ _
          rw [HT.out, hu, List.nil_append, useR_append, List.length_append, HOL.out, HXL.out]
          exact h
        case measure => simp [intOf]; omega
    · obtain rfl : j = l.length := by omega
      rw [List.take_length] at HOU ⊢
      go_wp2
      go_ret
      exact ⟨_, rfl, HB.out, HOU.out⟩


set_option maxHeartbeats 16000000 in
set_option maxRecDepth 1000000 in
theorem rusesS_in (w0 : World) {lv : Value} {l : List ST} (h : SSl w0 lv l) : (ST.usesL l).length ≤ 10000000 → ∀ w, Below w0.heap.size w0 w → Calls Tryz.prog 44 #[lv] w fun e w' => ∃ v, e = .returned v ∧ Below w.heap.size w w' ∧ OwnU w.heap.size w' v (ST.usesL l) := by
  induction h with
  | mk a b off cap l f g h ha hc hmx hcell hes hbs hxs ihb ihx =>
  intro hlen w hw
  obtain ⟨iT, hi, hz0, hz1, hz2⟩ := info_parts infoU
  have hm1 : cap ≤ 9223372036854775807 := hmx
  have HA := Lib.hid ha
  have HI := Lib.hid hcell
  have HES := Lib.hid hes
  have HBSs := Lib.hid hbs
  have HXSs := Lib.hid hxs
  have HIB := Lib.hid ihb
  have HIX := Lib.hid ihx
  have HW := Lib.hid hw
  have HLEN := Lib.hid hlen
  clear ha hcell hes hbs hxs ihb ihx hw hlen hmx
  go_enter Tryz.func44, Tryz.ntmps44
  go_wp2
  go_loopw [3, 4] (fun v i wr => ∃ j : Nat, i = .int .i64 j ∧ j ≤ l.length ∧ Hid (Below w.heap.size w wr) ∧ Hid (OwnU w.heap.size wr v (ST.usesL (l.take j)))) (fun _ i _ => l.length - (intOf i).toNat)
  case atStart => exact ⟨0, rfl, Nat.zero_le _, Below.refl _ _, World.ownsRow_nil _ _ _ _⟩
  case round =>
    obtain ⟨j, rfl, hjl, HB, HOU⟩ := hrel
    obtain ⟨la, lc, rfl⟩ := own_shape HOU.out
    by_cases hlt : j < l.length
    · obtain rfl := HA.out (by omega)
      obtain ⟨p0, p1, -, p3, p4, p5⟩ := HI.out j hlt
      have hz : b < w0.heap.size := lt_of_cell p0
      have hB0 : Below w0.heap.size w0 wr := HW.out.trans (HB.out.mono HW.out.size)
      replace p0 := (hB0.cell (p := ⟨b, off + j * 6, none⟩) hz).trans p0
      replace p1 := (hB0.cell (p := ⟨b, off + j * 6 + 1, none⟩) hz).trans p1
      have hz3 : ∀ W, Below w.heap.size w W → W.cell? ⟨b, off + j * 6 + 3, none⟩ = some (f j) := fun W hW => ((HW.out.trans (hW.mono HW.out.size)).cell (p := ⟨b, off + j * 6 + 3, none⟩) hz).trans p3
      have hz4 : ∀ W, Below w.heap.size w W → W.cell? ⟨b, off + j * 6 + 4, none⟩ = some (g j) := fun W hW => ((HW.out.trans (hW.mono HW.out.size)).cell (p := ⟨b, off + j * 6 + 4, none⟩) hz).trans p4
      have hz5 : ∀ W, Below w.heap.size w W → W.cell? ⟨b, off + j * 6 + 5, none⟩ = some (h j) := fun W hW => ((HW.out.trans (hW.mono HW.out.size)).cell (p := ⟨b, off + j * 6 + 5, none⟩) hz).trans p5
      have hT := ST.usesL_take l j hlt
      have hP := ST.usesL_part l j hlt
      have hP4 := hP
      rw [List.length_append, List.length_append, List.length_append] at hP4
      have hI1 := ruse_in w0 (HES.out j hlt) (by have := HLEN.out; omega)
      have hI2 := HIB.out j hlt (by have := HLEN.out; omega)
      have hI3 := HIX.out j hlt (by have := HLEN.out; omega)
      obtain ⟨qa, qc, hq⟩ := (HES.out j hlt).shape0
      obtain ⟨ra, rc, hr⟩ := (HBSs.out j hlt).shape0
      obtain ⟨sa, sc, hs⟩ := (HXSs.out j hlt).shape0
      rw [hq] at hz3 hI1
      rw [hr] at hz4 hI2
      rw [hs] at hz5 hI3
      clear hq hr hs hP p3 p4 p5
      generalize l.getD j default = x at p0 p1 hI1 hI2 hI3 hT hP4 hz3 hz4 hz5
      obtain ⟨xo, xn, xs, xp, xb, xe⟩ := x
      dsimp only [ST.op, ST.name, ST.parts, ST.body, ST.els] at p0 p1 hI1 hI2 hI3 hT hP4 hz3 hz4 hz5
      obtain ⟨L, hL⟩ : ∃ y, ST.usesL (l.take j) = y := ⟨_, rfl⟩
      obtain ⟨X, hX⟩ : ∃ y, ET.usesL xp = y := ⟨_, rfl⟩
      obtain ⟨Y, hY⟩ : ∃ y, ST.usesL xb = y := ⟨_, rfl⟩
      obtain ⟨Z, hZ⟩ : ∃ y, ST.usesL xe = y := ⟨_, rfl⟩
      rw [hL] at hT hP4 HOU ⊢
      rw [hX] at hT hP4 hI1
      rw [hY] at hT hP4 hI2
      rw [hZ] at hT hP4 hI3
      obtain ⟨ol, hol⟩ : ∃ y, L.length = y := ⟨_, rfl⟩
      obtain ⟨xl, hxl⟩ : ∃ y, X.length = y := ⟨_, rfl⟩
      obtain ⟨yl, hyl⟩ : ∃ y, Y.length = y := ⟨_, rfl⟩
      obtain ⟨zl, hzl⟩ : ∃ y, Z.length = y := ⟨_, rfl⟩
      have HO : Hid (wr.ownsRow w.heap.size 114 3 (.slice la ol lc) ol (useR L)) := by have := HOU.out; unfold OwnU at this; rw [hol] at this; exact this
      rw [hol, hxl, hyl, hzl] at hP4
      rw [hol]
      have hlen := HLEN.out
      have HC1 := Lib.hid hI1
      have HC2 := Lib.hid hI2
      have HC3 := Lib.hid hI3
      have HT := Lib.hid hT
      have HXL := Lib.hid hxl
      have HYL := Lib.hid hyl
      have HZL := Lib.hid hzl
      have HOL := Lib.hid hol
      have hjI : (j : Int) < l.length := by omega
      generalize xp.length = pl3 at HC1 hI1 hz3
      generalize xb.length = pl4 at HC2 hI2 hz4
      generalize xe.length = pl5 at HC3 hI3 hz5
      have Z3 := Lib.hid hz3
      have Z4 := Lib.hid hz4
      have Z5 := Lib.hid hz5
      have z3 := hz3 wr HB.out
      clear HOU hI1 hI2 hI3 hT hL hX hY hZ hol hxl hyl hzl hz hB0 hz3 hz4 hz5
      have hc5 : (xo = 1) ∨ ((xo == 1) = false ∧ xo = 4) ∨ ((xo == 1) = false ∧ (xo == 4) = false ∧ xo = 2) ∨ ((xo == 1) = false ∧ (xo == 4) = false ∧ (xo == 2) = false ∧ xo = 3) ∨ ((xo == 1) = false ∧ (xo == 4) = false ∧ (xo == 2) = false ∧ (xo == 3) = false ∧ xo ≠ 1 ∧ xo ≠ 4 ∧ xo ≠ 2 ∧ xo ≠ 3) := by
        by_cases h1 : xo = 1
        · exact .inl h1
        · by_cases h4 : xo = 4
          · exact .inr (.inl ⟨by simpa using h1, h4⟩)
          · by_cases h2 : xo = 2
            · exact .inr (.inr (.inl ⟨by simpa using h1, by simpa using h4, h2⟩))
            · by_cases h3 : xo = 3
              · exact .inr (.inr (.inr (.inl ⟨by simpa using h1, by simpa using h4, by simpa using h2, h3⟩)))
              · exact .inr (.inr (.inr (.inr ⟨by simpa using h1, by simpa using h4, by simpa using h2, by simpa using h3, h1, h4, h2, h3⟩)))
      rcases hc5 with rfl | ⟨h1, rfl⟩ | ⟨h1, h4, rfl⟩ | ⟨h1, h4, h2, rfl⟩ | ⟨h1, h4, h2, h3, g1, g4, g2, g3⟩
      · have hu1 : (ownV 1 xs).length = 1 := rfl
        rw [hu1] at hP4
        clear hu1 z3
        have HC := Lib.hid (cell3_new wr (.int .i64 1) (.int .i64 0) (.string xs) 114)
        have HOA := Lib.hid (HO.out.alloc (.cells #[.int .i64 1, .int .i64 0, .string xs] 114))
        have HBA1 : Hid (Below w.heap.size w (wr.alloc (.cells #[.int .i64 1, .int .i64 0, .string xs] 114))) := HB.out.alloc HB.out.size _
        go_wp2_with (first
          | (at_builtin; refine wpList_append_own _ rfl _ _ 111 rfl w.heap.size 114 iT (.agg #[.int .i64 0, .int .i64 0, .string ⟨#[]⟩]) 3 32 Tryz.underlying111 hi hz0 hz1 hz2 rfl (by decide) _ _ _ rfl HOA.out ⟨wr.heap.size, 0, none⟩ 1 1 [.int .i64 1, .int .i64 0, .string xs] rfl rfl HC.out (by simp [Value.oneCell']) (by unfold maxLen; omega) (by omega) HBA1.out.size ?_; intro v3 w3 hown' hgrow _; obtain ⟨g', cap', rfl⟩ := ownsRow_succ' hown'; have HO3 := Lib.hid hown'; have HB3 : Hid (Below w.heap.size w w3) := below_own9 HBA1.out HBA1.out.size HOA.out hgrow; have z3 := Z3.out w3 HB3.out; clear hown' hgrow HOA)
          | (go_at_call 71; refine (HC1.out _ (HW.out.trans (HB3.out.mono HW.out.size))).mono ?_; rintro e wa1 ⟨va1, rfl, hb, ho⟩; obtain ⟨ya1, yc1, hvs⟩ := own_shape ho; have hl := HXL.out; unfold OwnU at ho; rw [hl] at hvs ho; clear hl; subst hvs; obtain ⟨yb1, yo1, hya, hyc⟩ := OwnU.src ho; have HYA1 := Lib.hid hya; have HYC1 := Lib.hid hyc; have HBc1 : Hid (Below w.heap.size w wa1) := hb_step HB3 hb; have HOc1 := Lib.hid (own_hold9 HO3.out hb); clear hb ho hya hyc HC1)
          | (at_builtin; refine wpList_append_any _ rfl _ _ 111 rfl w.heap.size 114 iT (.agg #[.int .i64 0, .int .i64 0, .string ⟨#[]⟩]) 3 32 Tryz.underlying111 hi hz0 hz1 hz2 rfl (by decide) _ _ _ rfl HOc1.out ya1 yb1 yo1 xl yc1 rfl HYA1.out (useR X) (by rw [useR_length, HXL.out]) HYC1.out (useR_ones _) (by unfold maxLen; omega) (by omega) HBc1.out.size ?_; intro vb1 wb1 hown' hgrow; have HOd1 := Lib.hid hown'; have HBd1 : Hid (Below w.heap.size w wb1) := below_own9 HBc1.out HBc1.out.size HOc1.out hgrow; have z4 := Z4.out wb1 HBd1.out; clear hown' hgrow HOc1)
          | (go_at_call 44; refine (HC2.out _ (HW.out.trans (HBd1.out.mono HW.out.size))).mono ?_; rintro e wa2 ⟨va2, rfl, hb, ho⟩; obtain ⟨ya2, yc2, hvs⟩ := own_shape ho; have hl := HYL.out; unfold OwnU at ho; rw [hl] at hvs ho; clear hl; subst hvs; obtain ⟨yb2, yo2, hya, hyc⟩ := OwnU.src ho; have HYA2 := Lib.hid hya; have HYC2 := Lib.hid hyc; have HBc2 : Hid (Below w.heap.size w wa2) := hb_step HBd1 hb; have HOc2 := Lib.hid (own_hold9 HOd1.out hb); clear hb ho hya hyc HC2)
          | (at_builtin; refine wpList_append_any _ rfl _ _ 111 rfl w.heap.size 114 iT (.agg #[.int .i64 0, .int .i64 0, .string ⟨#[]⟩]) 3 32 Tryz.underlying111 hi hz0 hz1 hz2 rfl (by decide) _ _ _ rfl HOc2.out ya2 yb2 yo2 yl yc2 rfl HYA2.out (useR Y) (by rw [useR_length, HYL.out]) HYC2.out (useR_ones _) (by unfold maxLen; omega) (by omega) HBc2.out.size ?_; intro vb2 wb2 hown' hgrow; have HOd2 := Lib.hid hown'; have HBd2 : Hid (Below w.heap.size w wb2) := below_own9 HBc2.out HBc2.out.size HOc2.out hgrow; have z5 := Z5.out wb2 HBd2.out; clear hown' hgrow HOc2)
          | (go_at_call 44; refine (HC3.out _ (HW.out.trans (HBd2.out.mono HW.out.size))).mono ?_; rintro e wa3 ⟨va3, rfl, hb, ho⟩; obtain ⟨ya3, yc3, hvs⟩ := own_shape ho; have hl := HZL.out; unfold OwnU at ho; rw [hl] at hvs ho; clear hl; subst hvs; obtain ⟨yb3, yo3, hya, hyc⟩ := OwnU.src ho; have HYA3 := Lib.hid hya; have HYC3 := Lib.hid hyc; have HBc3 : Hid (Below w.heap.size w wa3) := hb_step HBd2 hb; have HOc3 := Lib.hid (own_hold9 HOd2.out hb); clear hb ho hya hyc HC3)
          | (at_builtin; refine wpList_append_any _ rfl _ _ 111 rfl w.heap.size 114 iT (.agg #[.int .i64 0, .int .i64 0, .string ⟨#[]⟩]) 3 32 Tryz.underlying111 hi hz0 hz1 hz2 rfl (by decide) _ _ _ rfl HOc3.out ya3 yb3 yo3 zl yc3 rfl HYA3.out (useR Z) (by rw [useR_length, HZL.out]) HYC3.out (useR_ones _) (by unfold maxLen; omega) (by omega) HBc3.out.size ?_; intro vb3 wb3 hown' hgrow; have HOd3 := Lib.hid hown'; have HBd3 : Hid (Below w.heap.size w wb3) := below_own9 HBc3.out HBc3.out.size HOc3.out hgrow; clear hown' hgrow HOc3))
        go_roundw
        case rel =>
          refine ⟨j + 1, by go_num, by omega, HBd3, ?_⟩
          have hu : ownV 1 xs = [⟨1, 0, xs⟩] := rfl
          have h := HOd3.out
          show World.ownsRow _ _ _ _ _ _ _
          rw [HT.out, hu]
          simp only [useR_append, useR_one, List.length_append, List.length_singleton, HOL.out, HXL.out, HYL.out, HZL.out, ← List.append_assoc]
          exact h
        case measure => simp [intOf]; omega
      · have hu1 : (ownV 4 xs).length = 1 := rfl
        rw [hu1] at hP4
        clear hu1 z3
        have HC := Lib.hid (cell3_new wr (.int .i64 1) (.int .i64 0) (.string xs) 114)
        have HOA := Lib.hid (HO.out.alloc (.cells #[.int .i64 1, .int .i64 0, .string xs] 114))
        have HBA1 : Hid (Below w.heap.size w (wr.alloc (.cells #[.int .i64 1, .int .i64 0, .string xs] 114))) := HB.out.alloc HB.out.size _
        go_wp2_with (first
          | (at_builtin; refine wpList_append_own _ rfl _ _ 111 rfl w.heap.size 114 iT (.agg #[.int .i64 0, .int .i64 0, .string ⟨#[]⟩]) 3 32 Tryz.underlying111 hi hz0 hz1 hz2 rfl (by decide) _ _ _ rfl HOA.out ⟨wr.heap.size, 0, none⟩ 1 1 [.int .i64 1, .int .i64 0, .string xs] rfl rfl HC.out (by simp [Value.oneCell']) (by unfold maxLen; omega) (by omega) HBA1.out.size ?_; intro v3 w3 hown' hgrow _; obtain ⟨g', cap', rfl⟩ := ownsRow_succ' hown'; have HO3 := Lib.hid hown'; have HB3 : Hid (Below w.heap.size w w3) := below_own9 HBA1.out HBA1.out.size HOA.out hgrow; have z3 := Z3.out w3 HB3.out; clear hown' hgrow HOA)
          | (go_at_call 71; refine (HC1.out _ (HW.out.trans (HB3.out.mono HW.out.size))).mono ?_; rintro e wa1 ⟨va1, rfl, hb, ho⟩; obtain ⟨ya1, yc1, hvs⟩ := own_shape ho; have hl := HXL.out; unfold OwnU at ho; rw [hl] at hvs ho; clear hl; subst hvs; obtain ⟨yb1, yo1, hya, hyc⟩ := OwnU.src ho; have HYA1 := Lib.hid hya; have HYC1 := Lib.hid hyc; have HBc1 : Hid (Below w.heap.size w wa1) := hb_step HB3 hb; have HOc1 := Lib.hid (own_hold9 HO3.out hb); clear hb ho hya hyc HC1)
          | (at_builtin; refine wpList_append_any _ rfl _ _ 111 rfl w.heap.size 114 iT (.agg #[.int .i64 0, .int .i64 0, .string ⟨#[]⟩]) 3 32 Tryz.underlying111 hi hz0 hz1 hz2 rfl (by decide) _ _ _ rfl HOc1.out ya1 yb1 yo1 xl yc1 rfl HYA1.out (useR X) (by rw [useR_length, HXL.out]) HYC1.out (useR_ones _) (by unfold maxLen; omega) (by omega) HBc1.out.size ?_; intro vb1 wb1 hown' hgrow; have HOd1 := Lib.hid hown'; have HBd1 : Hid (Below w.heap.size w wb1) := below_own9 HBc1.out HBc1.out.size HOc1.out hgrow; have z4 := Z4.out wb1 HBd1.out; clear hown' hgrow HOc1)
          | (go_at_call 44; refine (HC2.out _ (HW.out.trans (HBd1.out.mono HW.out.size))).mono ?_; rintro e wa2 ⟨va2, rfl, hb, ho⟩; obtain ⟨ya2, yc2, hvs⟩ := own_shape ho; have hl := HYL.out; unfold OwnU at ho; rw [hl] at hvs ho; clear hl; subst hvs; obtain ⟨yb2, yo2, hya, hyc⟩ := OwnU.src ho; have HYA2 := Lib.hid hya; have HYC2 := Lib.hid hyc; have HBc2 : Hid (Below w.heap.size w wa2) := hb_step HBd1 hb; have HOc2 := Lib.hid (own_hold9 HOd1.out hb); clear hb ho hya hyc HC2)
          | (at_builtin; refine wpList_append_any _ rfl _ _ 111 rfl w.heap.size 114 iT (.agg #[.int .i64 0, .int .i64 0, .string ⟨#[]⟩]) 3 32 Tryz.underlying111 hi hz0 hz1 hz2 rfl (by decide) _ _ _ rfl HOc2.out ya2 yb2 yo2 yl yc2 rfl HYA2.out (useR Y) (by rw [useR_length, HYL.out]) HYC2.out (useR_ones _) (by unfold maxLen; omega) (by omega) HBc2.out.size ?_; intro vb2 wb2 hown' hgrow; have HOd2 := Lib.hid hown'; have HBd2 : Hid (Below w.heap.size w wb2) := below_own9 HBc2.out HBc2.out.size HOc2.out hgrow; have z5 := Z5.out wb2 HBd2.out; clear hown' hgrow HOc2)
          | (go_at_call 44; refine (HC3.out _ (HW.out.trans (HBd2.out.mono HW.out.size))).mono ?_; rintro e wa3 ⟨va3, rfl, hb, ho⟩; obtain ⟨ya3, yc3, hvs⟩ := own_shape ho; have hl := HZL.out; unfold OwnU at ho; rw [hl] at hvs ho; clear hl; subst hvs; obtain ⟨yb3, yo3, hya, hyc⟩ := OwnU.src ho; have HYA3 := Lib.hid hya; have HYC3 := Lib.hid hyc; have HBc3 : Hid (Below w.heap.size w wa3) := hb_step HBd2 hb; have HOc3 := Lib.hid (own_hold9 HOd2.out hb); clear hb ho hya hyc HC3)
          | (at_builtin; refine wpList_append_any _ rfl _ _ 111 rfl w.heap.size 114 iT (.agg #[.int .i64 0, .int .i64 0, .string ⟨#[]⟩]) 3 32 Tryz.underlying111 hi hz0 hz1 hz2 rfl (by decide) _ _ _ rfl HOc3.out ya3 yb3 yo3 zl yc3 rfl HYA3.out (useR Z) (by rw [useR_length, HZL.out]) HYC3.out (useR_ones _) (by unfold maxLen; omega) (by omega) HBc3.out.size ?_; intro vb3 wb3 hown' hgrow; have HOd3 := Lib.hid hown'; have HBd3 : Hid (Below w.heap.size w wb3) := below_own9 HBc3.out HBc3.out.size HOc3.out hgrow; clear hown' hgrow HOc3))
        go_roundw
        case rel =>
          refine ⟨j + 1, by go_num, by omega, HBd3, ?_⟩
          have hu : ownV 4 xs = [⟨1, 0, xs⟩] := rfl
          have h := HOd3.out
          show World.ownsRow _ _ _ _ _ _ _
          rw [HT.out, hu]
          simp only [useR_append, useR_one, List.length_append, List.length_singleton, HOL.out, HXL.out, HYL.out, HZL.out, ← List.append_assoc]
          exact h
        case measure => simp [intOf]; omega
      · have hu1 : (ownV 2 xs).length = 1 := rfl
        rw [hu1] at hP4
        clear hu1 z3
        have HC := Lib.hid (cell3_new wr (.int .i64 2) (.int .i64 0) (.string xs) 114)
        have HOA := Lib.hid (HO.out.alloc (.cells #[.int .i64 2, .int .i64 0, .string xs] 114))
        have HBA1 : Hid (Below w.heap.size w (wr.alloc (.cells #[.int .i64 2, .int .i64 0, .string xs] 114))) := HB.out.alloc HB.out.size _
        go_wp2_with (first
          | (at_builtin; refine wpList_append_own _ rfl _ _ 111 rfl w.heap.size 114 iT (.agg #[.int .i64 0, .int .i64 0, .string ⟨#[]⟩]) 3 32 Tryz.underlying111 hi hz0 hz1 hz2 rfl (by decide) _ _ _ rfl HOA.out ⟨wr.heap.size, 0, none⟩ 1 1 [.int .i64 2, .int .i64 0, .string xs] rfl rfl HC.out (by simp [Value.oneCell']) (by unfold maxLen; omega) (by omega) HBA1.out.size ?_; intro v3 w3 hown' hgrow _; obtain ⟨g', cap', rfl⟩ := ownsRow_succ' hown'; have HO3 := Lib.hid hown'; have HB3 : Hid (Below w.heap.size w w3) := below_own9 HBA1.out HBA1.out.size HOA.out hgrow; have z3 := Z3.out w3 HB3.out; clear hown' hgrow HOA)
          | (go_at_call 71; refine (HC1.out _ (HW.out.trans (HB3.out.mono HW.out.size))).mono ?_; rintro e wa1 ⟨va1, rfl, hb, ho⟩; obtain ⟨ya1, yc1, hvs⟩ := own_shape ho; have hl := HXL.out; unfold OwnU at ho; rw [hl] at hvs ho; clear hl; subst hvs; obtain ⟨yb1, yo1, hya, hyc⟩ := OwnU.src ho; have HYA1 := Lib.hid hya; have HYC1 := Lib.hid hyc; have HBc1 : Hid (Below w.heap.size w wa1) := hb_step HB3 hb; have HOc1 := Lib.hid (own_hold9 HO3.out hb); clear hb ho hya hyc HC1)
          | (at_builtin; refine wpList_append_any _ rfl _ _ 111 rfl w.heap.size 114 iT (.agg #[.int .i64 0, .int .i64 0, .string ⟨#[]⟩]) 3 32 Tryz.underlying111 hi hz0 hz1 hz2 rfl (by decide) _ _ _ rfl HOc1.out ya1 yb1 yo1 xl yc1 rfl HYA1.out (useR X) (by rw [useR_length, HXL.out]) HYC1.out (useR_ones _) (by unfold maxLen; omega) (by omega) HBc1.out.size ?_; intro vb1 wb1 hown' hgrow; have HOd1 := Lib.hid hown'; have HBd1 : Hid (Below w.heap.size w wb1) := below_own9 HBc1.out HBc1.out.size HOc1.out hgrow; have z4 := Z4.out wb1 HBd1.out; clear hown' hgrow HOc1)
          | (go_at_call 44; refine (HC2.out _ (HW.out.trans (HBd1.out.mono HW.out.size))).mono ?_; rintro e wa2 ⟨va2, rfl, hb, ho⟩; obtain ⟨ya2, yc2, hvs⟩ := own_shape ho; have hl := HYL.out; unfold OwnU at ho; rw [hl] at hvs ho; clear hl; subst hvs; obtain ⟨yb2, yo2, hya, hyc⟩ := OwnU.src ho; have HYA2 := Lib.hid hya; have HYC2 := Lib.hid hyc; have HBc2 : Hid (Below w.heap.size w wa2) := hb_step HBd1 hb; have HOc2 := Lib.hid (own_hold9 HOd1.out hb); clear hb ho hya hyc HC2)
          | (at_builtin; refine wpList_append_any _ rfl _ _ 111 rfl w.heap.size 114 iT (.agg #[.int .i64 0, .int .i64 0, .string ⟨#[]⟩]) 3 32 Tryz.underlying111 hi hz0 hz1 hz2 rfl (by decide) _ _ _ rfl HOc2.out ya2 yb2 yo2 yl yc2 rfl HYA2.out (useR Y) (by rw [useR_length, HYL.out]) HYC2.out (useR_ones _) (by unfold maxLen; omega) (by omega) HBc2.out.size ?_; intro vb2 wb2 hown' hgrow; have HOd2 := Lib.hid hown'; have HBd2 : Hid (Below w.heap.size w wb2) := below_own9 HBc2.out HBc2.out.size HOc2.out hgrow; have z5 := Z5.out wb2 HBd2.out; clear hown' hgrow HOc2)
          | (go_at_call 44; refine (HC3.out _ (HW.out.trans (HBd2.out.mono HW.out.size))).mono ?_; rintro e wa3 ⟨va3, rfl, hb, ho⟩; obtain ⟨ya3, yc3, hvs⟩ := own_shape ho; have hl := HZL.out; unfold OwnU at ho; rw [hl] at hvs ho; clear hl; subst hvs; obtain ⟨yb3, yo3, hya, hyc⟩ := OwnU.src ho; have HYA3 := Lib.hid hya; have HYC3 := Lib.hid hyc; have HBc3 : Hid (Below w.heap.size w wa3) := hb_step HBd2 hb; have HOc3 := Lib.hid (own_hold9 HOd2.out hb); clear hb ho hya hyc HC3)
          | (at_builtin; refine wpList_append_any _ rfl _ _ 111 rfl w.heap.size 114 iT (.agg #[.int .i64 0, .int .i64 0, .string ⟨#[]⟩]) 3 32 Tryz.underlying111 hi hz0 hz1 hz2 rfl (by decide) _ _ _ rfl HOc3.out ya3 yb3 yo3 zl yc3 rfl HYA3.out (useR Z) (by rw [useR_length, HZL.out]) HYC3.out (useR_ones _) (by unfold maxLen; omega) (by omega) HBc3.out.size ?_; intro vb3 wb3 hown' hgrow; have HOd3 := Lib.hid hown'; have HBd3 : Hid (Below w.heap.size w wb3) := below_own9 HBc3.out HBc3.out.size HOc3.out hgrow; clear hown' hgrow HOc3))
        go_roundw
        case rel =>
          refine ⟨j + 1, by go_num, by omega, HBd3, ?_⟩
          have hu : ownV 2 xs = [⟨2, 0, xs⟩] := rfl
          have h := HOd3.out
          show World.ownsRow _ _ _ _ _ _ _
          rw [HT.out, hu]
          simp only [useR_append, useR_one, List.length_append, List.length_singleton, HOL.out, HXL.out, HYL.out, HZL.out, ← List.append_assoc]
          exact h
        case measure => simp [intOf]; omega
      · have hu1 : (ownV 3 xs).length = 1 := rfl
        rw [hu1] at hP4
        clear hu1 z3
        have HC := Lib.hid (cell3_new wr (.int .i64 3) (.int .i64 0) (.string xs) 114)
        have HOA := Lib.hid (HO.out.alloc (.cells #[.int .i64 3, .int .i64 0, .string xs] 114))
        have HBA1 : Hid (Below w.heap.size w (wr.alloc (.cells #[.int .i64 3, .int .i64 0, .string xs] 114))) := HB.out.alloc HB.out.size _
        go_wp2_with (first
          | (at_builtin; refine wpList_append_own _ rfl _ _ 111 rfl w.heap.size 114 iT (.agg #[.int .i64 0, .int .i64 0, .string ⟨#[]⟩]) 3 32 Tryz.underlying111 hi hz0 hz1 hz2 rfl (by decide) _ _ _ rfl HOA.out ⟨wr.heap.size, 0, none⟩ 1 1 [.int .i64 3, .int .i64 0, .string xs] rfl rfl HC.out (by simp [Value.oneCell']) (by unfold maxLen; omega) (by omega) HBA1.out.size ?_; intro v3 w3 hown' hgrow _; obtain ⟨g', cap', rfl⟩ := ownsRow_succ' hown'; have HO3 := Lib.hid hown'; have HB3 : Hid (Below w.heap.size w w3) := below_own9 HBA1.out HBA1.out.size HOA.out hgrow; have z3 := Z3.out w3 HB3.out; clear hown' hgrow HOA)
          | (go_at_call 71; refine (HC1.out _ (HW.out.trans (HB3.out.mono HW.out.size))).mono ?_; rintro e wa1 ⟨va1, rfl, hb, ho⟩; obtain ⟨ya1, yc1, hvs⟩ := own_shape ho; have hl := HXL.out; unfold OwnU at ho; rw [hl] at hvs ho; clear hl; subst hvs; obtain ⟨yb1, yo1, hya, hyc⟩ := OwnU.src ho; have HYA1 := Lib.hid hya; have HYC1 := Lib.hid hyc; have HBc1 : Hid (Below w.heap.size w wa1) := hb_step HB3 hb; have HOc1 := Lib.hid (own_hold9 HO3.out hb); clear hb ho hya hyc HC1)
          | (at_builtin; refine wpList_append_any _ rfl _ _ 111 rfl w.heap.size 114 iT (.agg #[.int .i64 0, .int .i64 0, .string ⟨#[]⟩]) 3 32 Tryz.underlying111 hi hz0 hz1 hz2 rfl (by decide) _ _ _ rfl HOc1.out ya1 yb1 yo1 xl yc1 rfl HYA1.out (useR X) (by rw [useR_length, HXL.out]) HYC1.out (useR_ones _) (by unfold maxLen; omega) (by omega) HBc1.out.size ?_; intro vb1 wb1 hown' hgrow; have HOd1 := Lib.hid hown'; have HBd1 : Hid (Below w.heap.size w wb1) := below_own9 HBc1.out HBc1.out.size HOc1.out hgrow; have z4 := Z4.out wb1 HBd1.out; clear hown' hgrow HOc1)
          | (go_at_call 44; refine (HC2.out _ (HW.out.trans (HBd1.out.mono HW.out.size))).mono ?_; rintro e wa2 ⟨va2, rfl, hb, ho⟩; obtain ⟨ya2, yc2, hvs⟩ := own_shape ho; have hl := HYL.out; unfold OwnU at ho; rw [hl] at hvs ho; clear hl; subst hvs; obtain ⟨yb2, yo2, hya, hyc⟩ := OwnU.src ho; have HYA2 := Lib.hid hya; have HYC2 := Lib.hid hyc; have HBc2 : Hid (Below w.heap.size w wa2) := hb_step HBd1 hb; have HOc2 := Lib.hid (own_hold9 HOd1.out hb); clear hb ho hya hyc HC2)
          | (at_builtin; refine wpList_append_any _ rfl _ _ 111 rfl w.heap.size 114 iT (.agg #[.int .i64 0, .int .i64 0, .string ⟨#[]⟩]) 3 32 Tryz.underlying111 hi hz0 hz1 hz2 rfl (by decide) _ _ _ rfl HOc2.out ya2 yb2 yo2 yl yc2 rfl HYA2.out (useR Y) (by rw [useR_length, HYL.out]) HYC2.out (useR_ones _) (by unfold maxLen; omega) (by omega) HBc2.out.size ?_; intro vb2 wb2 hown' hgrow; have HOd2 := Lib.hid hown'; have HBd2 : Hid (Below w.heap.size w wb2) := below_own9 HBc2.out HBc2.out.size HOc2.out hgrow; have z5 := Z5.out wb2 HBd2.out; clear hown' hgrow HOc2)
          | (go_at_call 44; refine (HC3.out _ (HW.out.trans (HBd2.out.mono HW.out.size))).mono ?_; rintro e wa3 ⟨va3, rfl, hb, ho⟩; obtain ⟨ya3, yc3, hvs⟩ := own_shape ho; have hl := HZL.out; unfold OwnU at ho; rw [hl] at hvs ho; clear hl; subst hvs; obtain ⟨yb3, yo3, hya, hyc⟩ := OwnU.src ho; have HYA3 := Lib.hid hya; have HYC3 := Lib.hid hyc; have HBc3 : Hid (Below w.heap.size w wa3) := hb_step HBd2 hb; have HOc3 := Lib.hid (own_hold9 HOd2.out hb); clear hb ho hya hyc HC3)
          | (at_builtin; refine wpList_append_any _ rfl _ _ 111 rfl w.heap.size 114 iT (.agg #[.int .i64 0, .int .i64 0, .string ⟨#[]⟩]) 3 32 Tryz.underlying111 hi hz0 hz1 hz2 rfl (by decide) _ _ _ rfl HOc3.out ya3 yb3 yo3 zl yc3 rfl HYA3.out (useR Z) (by rw [useR_length, HZL.out]) HYC3.out (useR_ones _) (by unfold maxLen; omega) (by omega) HBc3.out.size ?_; intro vb3 wb3 hown' hgrow; have HOd3 := Lib.hid hown'; have HBd3 : Hid (Below w.heap.size w wb3) := below_own9 HBc3.out HBc3.out.size HOc3.out hgrow; clear hown' hgrow HOc3))
        go_roundw
        case rel =>
          refine ⟨j + 1, by go_num, by omega, HBd3, ?_⟩
          have hu : ownV 3 xs = [⟨3, 0, xs⟩] := rfl
          have h := HOd3.out
          show World.ownsRow _ _ _ _ _ _ _
          rw [HT.out, hu]
          simp only [useR_append, useR_one, List.length_append, List.length_singleton, HOL.out, HXL.out, HYL.out, HZL.out, ← List.append_assoc]
          exact h
        case measure => simp [intOf]; omega
      · have hu0 : ownV xo xs = [] := by unfold ownV; rw [if_neg (fun e => by rcases e with e | e; exact g1 e; exact g4 e), if_neg g2, if_neg g3]
        rw [hu0, List.length_nil] at hP4
        have HU0 := Lib.hid hu0
        clear hu0 g1 g4 g2 g3
        go_wp2_with (first
          | (go_at_call 71; refine (HC1.out _ (HW.out.trans (HB.out.mono HW.out.size))).mono ?_; rintro e wa1 ⟨va1, rfl, hb, ho⟩; obtain ⟨ya1, yc1, hvs⟩ := own_shape ho; have hl := HXL.out; unfold OwnU at ho; rw [hl] at hvs ho; clear hl; subst hvs; obtain ⟨yb1, yo1, hya, hyc⟩ := OwnU.src ho; have HYA1 := Lib.hid hya; have HYC1 := Lib.hid hyc; have HBc1 : Hid (Below w.heap.size w wa1) := hb_step HB hb; have HOc1 := Lib.hid (own_hold9 HO.out hb); clear hb ho hya hyc HC1)
          | (at_builtin; refine wpList_append_any _ rfl _ _ 111 rfl w.heap.size 114 iT (.agg #[.int .i64 0, .int .i64 0, .string ⟨#[]⟩]) 3 32 Tryz.underlying111 hi hz0 hz1 hz2 rfl (by decide) _ _ _ rfl HOc1.out ya1 yb1 yo1 xl yc1 rfl HYA1.out (useR X) (by rw [useR_length, HXL.out]) HYC1.out (useR_ones _) (by unfold maxLen; omega) (by omega) HBc1.out.size ?_; intro vb1 wb1 hown' hgrow; have HOd1 := Lib.hid hown'; have HBd1 : Hid (Below w.heap.size w wb1) := below_own9 HBc1.out HBc1.out.size HOc1.out hgrow; have z4 := Z4.out wb1 HBd1.out; clear hown' hgrow HOc1)
          | (go_at_call 44; refine (HC2.out _ (HW.out.trans (HBd1.out.mono HW.out.size))).mono ?_; rintro e wa2 ⟨va2, rfl, hb, ho⟩; obtain ⟨ya2, yc2, hvs⟩ := own_shape ho; have hl := HYL.out; unfold OwnU at ho; rw [hl] at hvs ho; clear hl; subst hvs; obtain ⟨yb2, yo2, hya, hyc⟩ := OwnU.src ho; have HYA2 := Lib.hid hya; have HYC2 := Lib.hid hyc; have HBc2 : Hid (Below w.heap.size w wa2) := hb_step HBd1 hb; have HOc2 := Lib.hid (own_hold9 HOd1.out hb); clear hb ho hya hyc HC2)
          | (at_builtin; refine wpList_append_any _ rfl _ _ 111 rfl w.heap.size 114 iT (.agg #[.int .i64 0, .int .i64 0, .string ⟨#[]⟩]) 3 32 Tryz.underlying111 hi hz0 hz1 hz2 rfl (by decide) _ _ _ rfl HOc2.out ya2 yb2 yo2 yl yc2 rfl HYA2.out (useR Y) (by rw [useR_length, HYL.out]) HYC2.out (useR_ones _) (by unfold maxLen; omega) (by omega) HBc2.out.size ?_; intro vb2 wb2 hown' hgrow; have HOd2 := Lib.hid hown'; have HBd2 : Hid (Below w.heap.size w wb2) := below_own9 HBc2.out HBc2.out.size HOc2.out hgrow; have z5 := Z5.out wb2 HBd2.out; clear hown' hgrow HOc2)
          | (go_at_call 44; refine (HC3.out _ (HW.out.trans (HBd2.out.mono HW.out.size))).mono ?_; rintro e wa3 ⟨va3, rfl, hb, ho⟩; obtain ⟨ya3, yc3, hvs⟩ := own_shape ho; have hl := HZL.out; unfold OwnU at ho; rw [hl] at hvs ho; clear hl; subst hvs; obtain ⟨yb3, yo3, hya, hyc⟩ := OwnU.src ho; have HYA3 := Lib.hid hya; have HYC3 := Lib.hid hyc; have HBc3 : Hid (Below w.heap.size w wa3) := hb_step HBd2 hb; have HOc3 := Lib.hid (own_hold9 HOd2.out hb); clear hb ho hya hyc HC3)
          | (at_builtin; refine wpList_append_any _ rfl _ _ 111 rfl w.heap.size 114 iT (.agg #[.int .i64 0, .int .i64 0, .string ⟨#[]⟩]) 3 32 Tryz.underlying111 hi hz0 hz1 hz2 rfl (by decide) _ _ _ rfl HOc3.out ya3 yb3 yo3 zl yc3 rfl HYA3.out (useR Z) (by rw [useR_length, HZL.out]) HYC3.out (useR_ones _) (by unfold maxLen; omega) (by omega) HBc3.out.size ?_; intro vb3 wb3 hown' hgrow; have HOd3 := Lib.hid hown'; have HBd3 : Hid (Below w.heap.size w wb3) := below_own9 HBc3.out HBc3.out.size HOc3.out hgrow; clear hown' hgrow HOc3))
        go_roundw
        case rel =>
          refine ⟨j + 1, by go_num, by omega, HBd3, ?_⟩
          have h := HOd3.out
          show World.ownsRow _ _ _ _ _ _ _
          rw [HT.out, HU0.out, List.nil_append]
          simp only [useR_append, List.length_append, HOL.out, HXL.out, HYL.out, HZL.out, ← List.append_assoc]
          exact h
        case measure => simp [intOf]; omega
    · obtain rfl : j = l.length := by omega
      rw [List.take_length] at HOU ⊢
      go_wp2
      go_ret
      exact ⟨_, rfl, HB.out, HOU.out⟩
end Go.Proofs.YthjjcmmonjajhaaGreatDoor
