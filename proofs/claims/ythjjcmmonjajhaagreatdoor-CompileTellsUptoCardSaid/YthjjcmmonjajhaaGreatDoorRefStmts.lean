/- The reference's stmts: what statements are compiled to. -/
import Derived.Test.YthjjcmmonjajhaaGreatDoorRefStmt
import Derived.Lib.SmallJoins
namespace Go.Proofs.YthjjcmmonjajhaaGreatDoor
open Go.RowKit Go.Sort
set_option linter.unusedVariables false

theorem infoRR : (Tryz.prog.info? 42).map (fun i => (i.zero, i.size, i.bytes)) = some (some (.slice none 0 0), 1, 24) := by kernel_rfl
theorem cell1_new (w : World) (x : Value) (t : TypeId) : ∀ j u, ([x] : List Value)[j]? = some u → (w.alloc (.cells #[x] t)).cell? ((⟨w.heap.size, 0, none⟩ : Addr).add j) = some u := by
  intro j u h
  rw [addr_add0, Nat.zero_add]
  have := cell_of_heap (heap_alloc_new w (.cells #[x] t)) j
  rw [this]; simpa using h
theorem ST.nodesL_at : ∀ (l : List ST) (d : Int) (j : Nat), j < l.length → (ST.nodesL l d).all (·.1) = true → stmtB (l.getD j default).op (l.getD j default).num (l.getD j default).name (l.getD j default).parts.length (l.getD j default).body.length (l.getD j default).els.length = true ∧ (ET.nodesL (l.getD j default).parts (wrap64 (d + 1))).all (·.1) = true ∧ (ST.nodesL (l.getD j default).body (wrap64 (d + 1))).all (·.1) = true ∧ (ST.nodesL (l.getD j default).els (wrap64 (d + 1))).all (·.1) = true
  | [], _, j, hj, _ => absurd hj (by simp)
  | e :: r, d, 0, _, h => by
    simp only [ST.nodesL, List.all_append, Bool.and_eq_true] at h
    cases e with
    | mk o n s l b e => simp only [ST.nodes, List.all_cons, List.all_append, Bool.and_eq_true] at h; exact h.1
  | e :: r, d, j + 1, hj, h => by
    simp only [ST.nodesL, List.all_append, Bool.and_eq_true] at h
    simp only [List.getD_cons_succ]
    exact ST.nodesL_at r d j (by simpa using hj) h.2
theorem ST.at_all : ∀ (l : List ST) (d : Int) (j : Nat), j < l.length → (ST.nodesL l d).all (·.1) = true → ((l.getD j default).nodes d).all (·.1) = true
  | [], _, j, hj, _ => absurd hj (by simp)
  | e :: r, d, 0, _, h => by simp only [ST.nodesL, List.all_append, Bool.and_eq_true] at h; exact h.1
  | e :: r, d, j + 1, hj, h => by
    simp only [ST.nodesL, List.all_append, Bool.and_eq_true] at h
    simp only [List.getD_cons_succ]
    exact ST.at_all r d j (by simpa using hj) h.2
section
variable {all : List SC} {sc : SC}
theorem ST.codeL_next (l : List ST) (d : Int) (hn : (ST.nodesL l d).all (·.1) = true) (j : Nat) (h : j < l.length) : ST.codeL all sc (l.take (j + 1)) 0 = ST.codeL all sc (l.take j) 0 ++ shiftL ((ST.codeL all sc (l.take j) 0).length : Int) ((l.getD j default).code all sc 0) := by
  rw [ST.codeL_take all sc l 0 j h, Nat.zero_add]
  have := ST.shift_code (all := all) (sc := sc) (ST.codeL all sc (l.take j) 0).length (l.getD j default) 0 d (ST.at_all l d j h hn)
  rw [Nat.zero_add] at this
  rw [this]
theorem ST.codeL_part (l : List ST) (d : Int) (hn : (ST.nodesL l d).all (·.1) = true) (j : Nat) (h : j < l.length) : (ST.codeL all sc (l.take j) 0).length + ((l.getD j default).code all sc 0).length ≤ (ST.codeL all sc l 0).length := by
  have h1 := congrArg List.length (ST.codeL_next (all := all) (sc := sc) l d hn j h)
  rw [List.length_append, shiftL_len] at h1
  have h2 : (ST.codeL all sc l 0).length = (ST.codeL all sc (l.take (j + 1)) 0).length + (ST.codeL all sc (l.drop (j + 1)) (0 + (ST.codeL all sc (l.take (j + 1)) 0).length)).length := by
    rw [← List.length_append, ← ST.codeL_append, List.take_append_drop]
  omega
/-- The code of a statement's body, and of what stands behind else, is no longer than its own. -/
theorem ST.held_len {o n : Int} {s : ByteArray} {l : List ET} {b e : List ST} {d : Int} (hx : stmtB o n s l.length b.length e.length = true) (hb : (ST.nodesL b d).all (·.1) = true) (he : (ST.nodesL e d).all (·.1) = true) :
    (ST.codeL all sc b 0).length ≤ (ST.code all sc (.mk o n s l b e) 0).length ∧ (ST.codeL all sc e 0).length ≤ (ST.code all sc (.mk o n s l b e) 0).length := by
  obtain ⟨x1, x2, _⟩ := stmt_parts hx
  unfold stmtB at hx
  obtain ⟨_, h2⟩ := (Bool.and_eq_true _ _).mp hx
  obtain ⟨_, h3⟩ := (Bool.and_eq_true _ _).mp h2
  obtain ⟨h4, h5⟩ := (Bool.and_eq_true _ _).mp h3
  have hb1 : ∀ k, (ST.codeL all sc b k).length = (ST.codeL all sc b 0).length := fun k => by
    have := ST.shift_codeL (all := all) (sc := sc) k b 0 d hb
    rw [Nat.zero_add] at this
    rw [this, shiftL_len]
  have he1 : ∀ k, (ST.codeL all sc e k).length = (ST.codeL all sc e 0).length := fun k => by
    have := ST.shift_codeL (all := all) (sc := sc) k e 0 d he
    rw [Nat.zero_add] at this
    rw [this, shiftL_len]
  have hc : o = 1 ∨ o = 2 ∨ o = 3 ∨ o = 4 ∨ o = 5 ∨ o = 6 ∨ o = 9 ∨ o = 7 ∨ o = 8 := by omega
  have nb : ∀ {x : List ST} {q : Bool}, q = false → (q || decide (x.length = 0)) = true → x = [] := fun hq h => by
    subst hq; simp at h; exact h
  rcases hc with rfl | rfl | rfl | rfl | rfl | rfl | rfl | rfl | rfl
  case inr.inr.inr.inr.inr.inr.inr.inl =>
    simp only [ST.code]
    rw [if_pos (by simp), if_pos (by simp)]
    simp only [List.length_append, List.length_cons, List.length_nil]
    have q1 := hb1 (0 + (ET.codeL all sc l).length + 1)
    have q2 := he1 (0 + (ET.codeL all sc l).length + 1 + (ST.codeL all sc b (0 + (ET.codeL all sc l).length + 1)).length + 1)
    omega
  case inr.inr.inr.inr.inr.inr.inr.inr =>
    obtain rfl := nb (by decide) h5
    simp only [ST.code]
    rw [if_pos (by simp), if_neg (by simp)]
    simp only [List.length_append, List.length_cons, List.length_nil, ST.codeL]
    have q1 := hb1 (0 + (ET.codeL all sc l).length + 1)
    omega
  all_goals
    obtain rfl := nb (by decide) h4
    obtain rfl := nb (by decide) h5
    simp [ST.codeL]
end
theorem ST.mk_parts (s : ST) : s = .mk s.op s.num s.name s.parts s.body s.els := by cases s; rfl
/-- So many rows have been made. -/
structure RI (W0 : World) (all : List SC) (sc : SC) (l : List ST) (k : Nat) (v : Value) (wr : World) : Prop where
  below : Below W0.heap.size W0 wr
  got : ∃ f : Nat → Value, wr.ownsRow W0.heap.size 42 1 v k ((List.range k).map f) ∧ ∀ i, i < k → OwnI W0.heap.size wr (f i) ((l.getD i default).code all sc 0)
theorem RI.rls {W0 : World} {all : List SC} {sc : SC} {l : List ST} {v : Value} {wr : World} (h : RI W0 all sc l l.length v wr) (hs : ∀ i, i < l.length → ((l.getD i default).code all sc 0).length ≤ 10000000) : RLs wr v (l.map fun s => s.code all sc 0) := by
  obtain ⟨_, f, ho, hr⟩ := h
  have hL : (l.map fun s => s.code all sc 0).length = l.length := List.length_map _
  have hg : ∀ i, i < l.length → (l.map fun s => s.code all sc 0).getD i [] = (l.getD i default).code all sc 0 := fun i hi => by
    rw [List.getD_eq_getElem?_getD, List.getElem?_map, List.getElem?_eq_getElem hi, List.getD_eq_getElem?_getD, List.getElem?_eq_getElem hi]; rfl
  have ho' := ho
  obtain ⟨_, ⟨rfl, h0⟩ | ⟨q, cap, cur, rfl, _, hk, hn, hm, _⟩⟩ := ho
  · have key := RLs.mk (w := wr) none 0 0 0 (l.map fun s => s.code all sc 0) f (fun h => absurd h (by omega)) (by omega) (Nat.zero_le _) (fun i hi => absurd hi (by omega)) (fun i hi => absurd hi (by omega))
    rwa [hL, h0] at key
  · have key := RLs.mk (w := wr) (some ⟨q, 0, none⟩) q 0 cap (l.map fun s => s.code all sc 0) f (fun _ => rfl) (by omega) hm (fun i hi => by
      rw [hL] at hi
      rw [Nat.zero_add]
      have := own_cell ho' i (by omega)
      rw [this, List.getElem?_map, List.getElem?_range hi]; rfl) (fun i hi => by
      rw [hL] at hi
      rw [hg i hi]
      exact (hr i hi).isl (by have := hs i hi; omega))
    rwa [hL] at key
set_option maxHeartbeats 16000000 in
set_option maxRecDepth 1000000 in
theorem cstmts_in (w0 : World) (allv vv av : Value) (all : List SC) (sc : SC) (henv : Env9 w0 allv vv av all sc) (hv1 : sc.vars.length ≤ 1000) (ha1 : sc.arrays.length ≤ 1000) (hl1 : all.length ≤ 1000) {lv : Value} {l : List ST} (h : SSl w0 lv l) : ∀ (d : Int), (ST.nodesL l d).all (·.1) = true → (ST.codeL all sc l 0).length ≤ 10000000 →
    StsOk w0 allv (.agg #[.string sc.name, .int .i64 sc.params, vv, av]) all sc lv l := by
  induction h with
  | mk a b off cap l f g h ha hc hmx hcell hes hbs hxs ihb ihx =>
  intro d hn hlen w hw
  obtain ⟨iR, hR, hR0, hR1, hR2⟩ := info_parts infoRR
  have hm1 : cap ≤ 9223372036854775807 := hmx
  have hln : l.length ≤ 10000000 := by
    have h1 : ∀ (l : List ST) (k : Nat), l.length ≤ (ST.codeL all sc l k).length := by
      intro l
      induction l with
      | nil => intro k; simp
      | cons s r ih =>
        intro k
        have h2 := ih (k + (ST.code all sc s k).length)
        have h3 : 1 ≤ (ST.code all sc s k).length := by
          cases s with
          | mk o n s l b e => simp only [ST.code]; split <;> (try split) <;> simp only [List.length_append, List.length_cons, List.length_nil] <;> omega
        simp only [ST.codeL, List.length_append, List.length_cons]; omega
    have := h1 l 0; omega
  obtain ⟨va, vn, vc, hvv⟩ := henv.vars.shapeT
  obtain ⟨aa, an, ac, hav⟩ := henv.arrays.shapeT
  obtain ⟨ga, gc, hall⟩ : ∃ a c, allv = .slice a all.length c := by obtain ⟨a, c, h, _⟩ := henv.scs.len9; exact ⟨a, c, h⟩
  subst hvv hav hall
  have HENV := Lib.hid henv
  have HA := Lib.hid ha
  have HI := Lib.hid hcell
  have HES := Lib.hid hes
  have HBSs := Lib.hid hbs
  have HXSs := Lib.hid hxs
  have HIB := Lib.hid ihb
  have HIX := Lib.hid ihx
  have HND := Lib.hid hn
  have HW := Lib.hid hw
  have HLEN := Lib.hid hlen
  obtain ⟨nm, hnm⟩ : ∃ x, sc.name = x := ⟨_, rfl⟩
  obtain ⟨pm, hpm⟩ : ∃ x, sc.params = x := ⟨_, rfl⟩
  have HNP := Lib.hid (And.intro hnm hpm)
  have HV1 := Lib.hid (And.intro hv1 (And.intro ha1 hl1))
  rw [hnm, hpm]
  clear ha hcell hes hbs hxs ihb ihx hn hw hlen henv hnm hpm hmx hv1 ha1 hl1
  have HSB : Hid ((w.alloc (.cells #[.string nm, .int .i64 pm, .slice va vn vc, .slice aa an ac] 77)).heap[w.heap.size]? = some (.cells #[.string nm, .int .i64 pm, .slice va vn vc, .slice aa an ac] 77 (0, 0))) := heap_alloc_new _ _
  have HBA : Hid (Below w.heap.size w (w.alloc (.cells #[.string nm, .int .i64 pm, .slice va vn vc, .slice aa an ac] 77))) := hb_alloc (hb_start w) _
  have HSZ : Hid ((w.alloc (.cells #[.string nm, .int .i64 pm, .slice va vn vc, .slice aa an ac] 77)).heap.size = w.heap.size + 1) := by show _ = _; rw [World.size_alloc]
  go_enter Tryz.func21, Tryz.ntmps21
  go_wp2
  generalize hW0 : w.alloc (.cells #[.string nm, .int .i64 pm, .slice va vn vc, .slice aa an ac] 77) = W0 at HSB HBA HSZ ⊢
  clear hW0
  go_loopw [7, 8] (fun v i wr => ∃ j : Nat, i = .int .i64 j ∧ j ≤ l.length ∧ Hid (RI W0 all sc l j v wr)) (fun _ i _ => l.length - (intOf i).toNat)
  case atStart => exact ⟨0, rfl, Nat.zero_le _, ⟨(Below.refl _ _).alloc (Nat.le_refl _) _, fun _ => undef, by rw [← HSZ.out]; exact own_empty9 _ _ _ _ (Nat.le_refl _), fun i hi => absurd hi (by omega)⟩⟩
  case round =>
    obtain ⟨j, rfl, hjl, HQ⟩ := hrel
    obtain ⟨hqb, fr, hqo, hqr⟩ := HQ.out
    obtain ⟨la, lc, rfl⟩ := own_shape hqo
    have HB := Lib.hid hqb
    have HO := Lib.hid hqo
    have HR := Lib.hid hqr
    clear hqb hqo hqr
    have HBS := Lib.hid ((HB.out.block _ (lt_of_heap HSB.out)).trans HSB.out)
    have s0 : wr.cell? ⟨w.heap.size, 0, none⟩ = some (.string nm) := cell_of_heap HBS.out 0
    have s1 : wr.cell? ⟨w.heap.size, 1, none⟩ = some (.int .i64 pm) := cell_of_heap HBS.out 1
    have s2 : wr.cell? ⟨w.heap.size, 2, none⟩ = some (.slice va vn vc) := cell_of_heap HBS.out 2
    have s3 : wr.cell? ⟨w.heap.size, 3, none⟩ = some (.slice aa an ac) := cell_of_heap HBS.out 3
    have HWr : Hid (Below w.heap.size w wr) := HBA.out.trans (HB.out.mono HBA.out.size)
    by_cases hlt : j < l.length
    · obtain rfl := HA.out (by omega)
      obtain ⟨p0, p1, p2, p3, p4, p5⟩ := HI.out j hlt
      have hB0 : Below w0.heap.size w0 wr := HW.out.trans (HWr.out.mono HW.out.size)
      have hz : b < w0.heap.size := lt_of_cell p0
      replace p0 := (hB0.cell (p := ⟨b, off + j * 6, none⟩) hz).trans p0
      replace p1 := (hB0.cell (p := ⟨b, off + j * 6 + 1, none⟩) hz).trans p1
      replace p2 := (hB0.cell (p := ⟨b, off + j * 6 + 2, none⟩) hz).trans p2
      replace p3 := (hB0.cell (p := ⟨b, off + j * 6 + 3, none⟩) hz).trans p3
      replace p4 := (hB0.cell (p := ⟨b, off + j * 6 + 4, none⟩) hz).trans p4
      replace p5 := (hB0.cell (p := ⟨b, off + j * 6 + 5, none⟩) hz).trans p5
      obtain ⟨y1, y2, y3, y4⟩ := ST.nodesL_at l d j hlt HND.out
      have hP := ST.codeL_part (all := all) (sc := sc) l d HND.out j hlt
      have hl9 : ((l.getD j default).code all sc 0).length ≤ 10000000 := by have := HLEN.out; omega
      have hmk := ST.mk_parts (l.getD j default)
      rw [hmk] at hl9
      obtain ⟨hh1, hh2⟩ := ST.held_len (all := all) (sc := sc) (n := (l.getD j default).num) (s := (l.getD j default).name) (l := (l.getD j default).parts) y1 y3 y4
      have hjb : JumpsTo 10000000 (ST.codeL all sc (l.getD j default).body 0) := fun i hi ho => by
        have := (ST.codeL_ok HV1.out.1 HV1.out.2.1 HV1.out.2.2 (l.getD j default).body 0 _ y3 (by omega) i hi).jump ho
        omega
      have hje : JumpsTo 10000000 (ST.codeL all sc (l.getD j default).els 0) := fun i hi ho => by
        have := (ST.codeL_ok HV1.out.1 HV1.out.2.1 HV1.out.2.2 (l.getD j default).els 0 _ y4 (by omega) i hi).jump ho
        omega
      obtain ⟨fa, fc, hq3⟩ := (HES.out j hlt).shape0
      obtain ⟨ba, bc, hq4⟩ := (HBSs.out j hlt).shape0
      obtain ⟨ea, ec, hq5⟩ := (HXSs.out j hlt).shape0
      have hI := rstmt_in w0 _ _ _ all sc HENV.out (HES.out j hlt) _ (l.getD j default).num (l.getD j default).name y1 _ y2 y3 y4 hl9 ⟨_, _, _, hq4⟩ ⟨_, _, _, hq5⟩ hjb hje (HIB.out j hlt _ y3 (by omega)) (HIX.out j hlt _ y4 (by omega))
      rw [HNP.out.1, HNP.out.2, hq3, hq4, hq5] at hI
      rw [hq3] at p3
      rw [hq4] at p4
      rw [hq5] at p5
      unfold StOk at hI
      rw [← hmk] at hI
      have hcj : ∃ x, (l.getD j default).code all sc 0 = x := ⟨_, rfl⟩
      obtain ⟨cj, hcj⟩ := hcj
      rw [hcj] at hI
      have HCJ := Lib.hid hcj
      clear hq3 hq4 hq5 y1 y2 y3 y4 hh1 hh2 hjb hje hP hl9 hmk hcj hz
      generalize l.getD j default = x at p0 p1 p2 p3 p4 p5 hI
      generalize x.op = xo at p0 hI
      generalize x.num = xn at p2 hI
      generalize x.name = xs at p1 hI
      generalize x.parts.length = xl3 at p3 hI
      generalize x.body.length = xl4 at p4 hI
      generalize x.els.length = xl5 at p5 hI
      have HI2 := Lib.hid hI
      have HB0' := Lib.hid hB0
      have hjI : (j : Int) < l.length := by omega
      clear hI hB0
      go_wp2_with fail
      go_still_tail 6, (by kernel_rfl)
      change wpList _ _ _ _ _ wr.drew
      have HBd : Hid (Below W0.heap.size W0 wr.drew) := HB.out.drew
      have HOd := Lib.hid (own_hold9 HO.out (Below.refl _ _).drew)
      have HRd : Hid (∀ i, i < j → OwnI W0.heap.size wr.drew (fr i) ((l.getD i default).code all sc 0)) := fun i hi => OwnI.stay (HR.out i hi) (Below.refl _ _).drew
      have HB0d : Hid (Below w0.heap.size w0 wr.drew) := HB0'.out.drew
      clear HB HO HR HBS HB0' HQ p0 p1 p2 p3 p4 p5 s0 s1 s2 s3
      generalize wr.drew = wd at HBd HOd HRd HB0d ⊢
      go_wp2_with (first
        | (go_at_call 46; refine (HI2.out _ HB0d.out).mono ?_; rintro e w2 ⟨v2, rfl, hb, ho⟩; obtain ⟨ya, yc, hvs⟩ := ho.shape; generalize cj.length = yl at hvs; subst hvs; have HY : Hid (OwnI W0.heap.size w2 (.slice ya yl yc) cj) := Lib.hid (OwnI.lower ho HBd.out.size); have HB2 : Hid (Below W0.heap.size W0 w2) := HBd.out.trans (hb.mono HBd.out.size); have HO2 := Lib.hid (own_hold9 HOd.out hb); have HR2 : Hid (∀ i, i < j → OwnI W0.heap.size w2 (fr i) ((l.getD i default).code all sc 0)) := fun i hi => OwnI.stay (HRd.out i hi) hb; have HOA := Lib.hid (HO2.out.alloc (.cells #[.slice ya yl yc] 42)); have HBX : Hid (Below W0.heap.size W0 (w2.alloc (.cells #[.slice ya yl yc] 42))) := HB2.out.alloc HB2.out.size _; clear hb ho)
        | (at_builtin; refine wpList_append_own _ rfl _ _ 116 rfl W0.heap.size 42 iR (.slice none 0 0) 1 24 Tryz.underlying116 hR hR0 hR1 hR2 rfl (by decide) _ _ _ rfl HOA.out ⟨w2.heap.size, 0, none⟩ 1 1 [.slice ya yl yc] rfl rfl (cell1_new _ _ _) (by simp [Value.oneCell']) (by unfold maxLen; omega) (by omega) HBX.out.size ?_; intro v' w3 hown' hgrow _; obtain ⟨g', cap', rfl⟩ := ownsRow_succ' hown'; have HO3 := Lib.hid hown'; have HG3 := Lib.hid hgrow; have HB3 : Hid (Below W0.heap.size W0 w3) := below_own9 HBX.out HBX.out.size HOA.out hgrow; clear hown' hgrow))
      have HN3 : Hid (RI W0 all sc l (j + 1) (.slice (some ⟨g', 0, none⟩) (j + 1) cap') w3) := by
        refine ⟨HB3.out, fun i => if i = j then .slice ya yl yc else fr i, ?_, fun i hi => ?_⟩
        · have e : (List.range (j + 1)).map (fun i => if i = j then Value.slice ya yl yc else fr i) = (List.range j).map fr ++ [.slice ya yl yc] := by
            rw [List.range_succ, List.map_append]
            congr 1
            · exact List.map_congr_left fun i hi => by rw [if_neg (by have := List.mem_range.1 hi; omega)]
            · simp
          rw [e]; exact HO3.out
        · dsimp only
          by_cases e : i = j
          · subst e
            rw [if_pos rfl, HCJ.out]
            exact own_other (World.ownsRow.alloc HY.out _) HOA.out (by decide) HG3.out
          · rw [if_neg e]
            exact own_other (World.ownsRow.alloc (HR2.out i (by omega)) _) HOA.out (by decide) HG3.out
      go_roundw
      case rel => exact ⟨j + 1, by go_num, by omega, HN3⟩
      case measure => simp [intOf]; omega
    · obtain rfl : j = l.length := by omega
      have HRL := Lib.hid (HQ.out.rls (fun i hi => by have := ST.codeL_part (all := all) (sc := sc) l d HND.out i hi; have := HLEN.out; omega))
      have hL : (l.map fun s => s.code all sc 0).length = l.length := List.length_map _
      have hg : ∀ i, i < l.length → (l.map fun s => s.code all sc 0).getD i [] = (l.getD i default).code all sc 0 := fun i hi => by
        rw [List.getD_eq_getElem?_getD, List.getElem?_map, List.getElem?_eq_getElem hi, List.getD_eq_getElem?_getD, List.getElem?_eq_getElem hi]; rfl
      have hjoin := join_r (.slice la l.length lc) (l.map fun s => s.code all sc 0) (fun k => ST.codeL all sc (l.take k) 0) (by simp [ST.codeL]) (fun k hk => by
          rw [hL] at hk
          rw [hg k hk]
          exact ST.codeL_next l d HND.out k hk) 10000000 (by omega) (fun k hk i hi ho => by
          rw [hL] at hk
          rw [hg k hk] at hi
          have h1 := ST.codeL_part (all := all) (sc := sc) l d HND.out k hk
          have h2 := HLEN.out
          have := (ST.code_ok HV1.out.1 HV1.out.2.1 HV1.out.2.2 (l.getD k default) 0 d (ST.at_all l d k hk HND.out) (by omega) i hi).jump ho
          omega) (fun k hk => by
          rw [hL] at hk
          show (ST.codeL all sc (l.take k) 0).length ≤ _
          rcases Nat.lt_or_ge k l.length with h | h
          · have h1 := ST.codeL_part (all := all) (sc := sc) l d HND.out k h
            have h2 := HLEN.out
            omega
          · have h2 := HLEN.out
            rw [List.take_of_length_le h]; omega)
      rw [hL, List.take_length] at hjoin
      have HJ := Lib.hid hjoin
      clear hjoin hL hg s0 s1 s2 s3
      go_wp2_with (go_at_call 47; refine (HJ.out _ HRL.out).mono ?_; rintro e w2 ⟨v2, rfl, hb, ho⟩; have HB2 : Hid (Below w.heap.size w w2) := hb_step HWr hb; have HO2 := Lib.hid (OwnI.lower ho HWr.out.size); clear hb ho)
      go_ret
      exact ⟨_, rfl, HB2.out, HO2.out⟩
end Go.Proofs.YthjjcmmonjajhaaGreatDoor
