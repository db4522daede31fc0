/- The reference's join: rows, one behind the other, each moved by what is ahead of it. The reference's expr: what an expression is compiled to. What is compiled of a statement, told from its beginning, and moved, is what is compiled of it where it stands. -/
import Derived.Test.YthjjcmmonjajhaaGreatDoorRefs
import Derived.Test.YthjjcmmonjajhaaGreatDoorEndsKit
import Derived.StillTailTactics
namespace Go.Proofs.YthjjcmmonjajhaaGreatDoor
open Go.RowKit Go.Sort
set_option linter.unusedVariables false

theorem ISl.row9 {w : World} {a : Option Addr} {n cap : Nat} {l : List VI} (h : ISl w (.slice a n cap) l) : n = l.length ∧ ∃ b off, (0 < n → a = some ⟨b, off, none⟩) ∧ ∀ i, i < n → w.cell? ⟨b, off + i * 3, none⟩ = some (.int .i64 (l.getD i default).op) ∧ w.cell? ⟨b, off + i * 3 + 1, none⟩ = some (.int .i64 (l.getD i default).a) ∧ w.cell? ⟨b, off + i * 3 + 2, none⟩ = some (.int .i64 (l.getD i default).n) := by
  generalize hv : Value.slice a n cap = v at h
  cases h with
  | mk a' b off cap' l' ha hc hm hs hcell => cases hv; exact ⟨rfl, b, off, ha, hcell⟩
theorem ISl.cap9 {w : World} {a : Option Addr} {n cap : Nat} {l : List VI} (h : ISl w (.slice a n cap) l) : n ≤ cap ∧ cap ≤ 9223372036854775807 := by
  generalize hv : Value.slice a n cap = v at h
  cases h with
  | mk a' b off cap' l' ha hc hm hs hcell => cases hv; exact ⟨hc, hm⟩
/-- What an append of a row of instructions wants. -/
theorem ISl.src9 {w : World} {a : Option Addr} {n cap : Nat} {l : List VI} (h : ISl w (.slice a n cap) l) : n = l.length ∧ ∃ b off, At a n b off ∧ ∀ j u, (insR l)[j]? = some u → w.cell? ⟨b, off + j, none⟩ = some u := by
  obtain ⟨hn, b, off, ha, hc⟩ := h.row9
  refine ⟨hn, b, off, ha, fun j u hj => ?_⟩
  have hlt : j < l.length * 3 := by rw [← insR_length]; exact (List.getElem?_eq_some_iff.1 hj).1
  obtain ⟨i, r, hi, hr, rfl⟩ : ∃ i r, i < l.length ∧ r < 3 ∧ j = i * 3 + r := ⟨j / 3, j % 3, by omega, by omega, by omega⟩
  rw [insR_at l i r hi hr] at hj
  obtain ⟨c0, c1, c2⟩ := hc i (by omega)
  have hr' : r = 0 ∨ r = 1 ∨ r = 2 := by omega
  rcases hr' with rfl | rfl | rfl
  · simp [insC] at hj; rw [← hj, Nat.add_zero]; simpa using c0
  · simp [insC] at hj; rw [← hj, ← Nat.add_assoc]; simpa using c1
  · simp [insC] at hj; rw [← hj, ← Nat.add_assoc]; simpa using c2
theorem insR_ones (l : List VI) : ∀ u ∈ insR l, u.oneCell' = true := by
  intro u hu
  unfold insR at hu
  obtain ⟨i, _, hi⟩ := List.mem_flatMap.1 hu
  simp [insC] at hi
  rcases hi with rfl | rfl | rfl <;> rfl
/-- A slice of rows of instructions in memory. -/
inductive RLs (w : World) : Value → List (List VI) → Prop
  | mk (a : Option Addr) (b off cap : Nat) (l : List (List VI)) (f : Nat → Value) : At a l.length b off → l.length ≤ cap → cap ≤ maxLen →
      (∀ i, i < l.length → w.cell? ⟨b, off + i, .none⟩ = .some (f i)) → (∀ i, i < l.length → ISl w (f i) (l.getD i [])) → RLs w (.slice a l.length cap) l
theorem shiftL_ins (k : Int) (l : List VI) : (insR (shiftL k l)).length = l.length * 3 := by rw [insR_length, shiftL_len]

set_option maxHeartbeats 8000000 in
set_option maxRecDepth 1000000 in
theorem join_r (v : Value) (l : List (List VI)) (O : Nat → List VI) (hO0 : O 0 = []) (hO : ∀ k, k < l.length → O (k + 1) = O k ++ shiftL ((O k).length : Int) (l.getD k [])) (m : Int) (hm : m ≤ 1000000000) (hj : ∀ k, k < l.length → JumpsTo m (l.getD k [])) (hol : ∀ k, k ≤ l.length → (O k).length ≤ 100000000) (w : World) (h : RLs w v l) :
    Calls Tryz.prog 47 #[v] w fun e w' => ∃ v, e = .returned v ∧ Below w.heap.size w w' ∧ OwnI w.heap.size w' v (O l.length) := by
  obtain ⟨iT, hi, hz0, hz1, hz2⟩ := info_parts infoIR
  cases h with
  | mk a b off cap l f ha hc hmx hcell hrow =>
  have HA := Lib.hid ha
  have HI := Lib.hid hcell
  have HW := Lib.hid hrow
  have HJ := Lib.hid hj
  have HO0 := Lib.hid hO0
  have HON := Lib.hid hO
  have HOL := Lib.hid hol
  have hm1 : cap ≤ 9223372036854775807 := hmx
  clear ha hcell hrow hj hmx hO0 hO hol
  go_enter Tryz.func47, Tryz.ntmps47
  go_wp2
  go_loopw [3, 4] (fun v i wr => ∃ j : Nat, i = .int .i64 j ∧ j ≤ l.length ∧ Hid (Below w.heap.size w wr) ∧ Hid (wr.ownsRow w.heap.size 47 3 v (O j).length (insR (O j)))) (fun _ i _ => l.length - (intOf i).toNat)
  case atStart => exact ⟨0, rfl, Nat.zero_le _, (Below.refl _ _).alloc (Nat.le_refl _) _, by rw [HO0.out]; exact own_empty9 _ _ _ _ (Nat.le_refl _)⟩
  case round =>
    obtain ⟨j, rfl, hjl, HB, HO⟩ := hrel
    obtain ⟨la, lc, rfl⟩ := own_shape HO.out
    by_cases hlt : j < l.length
    · obtain rfl := HA.out (by omega)
      have e0 := HI.out j hlt
      have hx := HW.out j hlt
      replace e0 := (HB.out.cell (p := ⟨b, off + j, none⟩) (lt_of_cell e0)).trans e0
      obtain ⟨xa, xc, hxs⟩ := hx.shape
      rw [hxs] at e0 hx
      have hN := HON.out j hlt
      have hJ := HJ.out j hlt
      have h1 := HOL.out j hjl
      have h2 := HOL.out (j + 1) hlt
      generalize l.getD j [] = x at e0 hx hN hJ
      generalize hOj : O j = Oj at HO hN h1 e0
      rw [hN, List.length_append, shiftL_len] at h2
      obtain ⟨ol, hol⟩ : ∃ n, Oj.length = n := ⟨_, rfl⟩
      obtain ⟨xl, hxl⟩ : ∃ n, x.length = n := ⟨_, rfl⟩
      rw [hol] at HO h1 h2 hN ⊢
      rw [hxl] at h2 e0 hx
      have HX := Lib.hid hx
      have HN := Lib.hid hN
      have HJX := Lib.hid hJ
      have HOL' := Lib.hid hol
      have HXL := Lib.hid hxl
      clear hx hN hJ hxs hOj hol hxl
      go_wp2_with (first
        | (go_at_call 74; refine (moved_r xa xl xc x ol m (by omega) (by omega) hm HJX.out (by rw [HXL.out]; omega) _ (HX.out.stay HB.out)).mono ?_; rintro e w2 ⟨v2, rfl, hb, hvo⟩; have hv := hvo.isl (by rw [shiftL_len, HXL.out]; omega); clear hvo; obtain ⟨ya, yc, hvs⟩ := hv.shape; have hxl := HXL.out; rw [shiftL_len, hxl] at hvs; clear hxl; subst hvs; have HV := Lib.hid hv; have HB2 : Hid (Below w.heap.size w w2) := hb_step HB hb; have HO2 := Lib.hid (own_hold9 HO.out hb); clear hb hv; obtain ⟨hyn, yb, yo, hya, hyc⟩ := HV.out.src9; have HYA := Lib.hid hya; have HYC := Lib.hid hyc; have HYN := Lib.hid hyn; clear hya hyc hyn)
        | (at_builtin; refine wpList_append_any _ rfl _ _ 42 rfl w.heap.size 47 iT (.agg #[.int .i64 0, .int .i64 0, .int .i64 0]) 3 24 Tryz.underlying42 hi hz0 hz1 hz2 rfl (by decide) _ _ _ rfl HO2.out ya yb yo xl yc rfl HYA.out (insR (shiftL ol x)) (by rw [insR_length, ← HYN.out]) HYC.out (insR_ones _) (by unfold maxLen; omega) (by omega) HB2.out.size ?_; intro v' w3 hown' hgrow; have HO3 := Lib.hid hown'; have HB3 : Hid (Below w.heap.size w w3) := below_own9 HB2.out HB2.out.size HO2.out hgrow; clear hown' hgrow))
      go_roundw
      case rel => exact ⟨j + 1, by go_num, by omega, HB3, by rw [HN.out, insR_append, List.length_append, HOL'.out, shiftL_len, HXL.out]; exact HO3.out⟩
      case measure => simp [intOf]; omega
    · obtain rfl : j = l.length := by omega
      go_wp2
      go_ret
      exact ⟨_, rfl, HB.out, HO.out⟩
end Go.Proofs.YthjjcmmonjajhaaGreatDoor
namespace Go.Proofs.YthjjcmmonjajhaaGreatDoor
open Go.RowKit Go.Sort
set_option linter.unusedVariables false

/-- What an expression is compiled to, wherever it is asked behind a world. -/
def ExOk (w0 : World) (allv sv : Value) (all : List SC) (sc : SC) (lv : Value) (o n : Int) (s : ByteArray) (l : List ET) : Prop :=
  ∀ w, Below w0.heap.size w0 w → Calls Tryz.prog 72 #[allv, sv, .agg #[.int .i64 o, .int .i64 n, .string s, lv]] w fun e w' => ∃ v, e = .returned v ∧ Below w.heap.size w w' ∧ ISl w' v (ET.codeL all sc l ++ [insE all sc o n s])
/-- The scopes, and the scope, that the compiler is given. -/
structure Env9 (w0 : World) (allv vv av : Value) (all : List SC) (sc : SC) : Prop where
  scs : CSl w0 allv all
  vars : TSl w0 vv sc.vars
  arrays : TSl w0 av sc.arrays
  some : 0 < all.length
theorem Env9.stay {w0 w : World} {allv vv av : Value} {all : List SC} {sc : SC} (h : Env9 w0 allv vv av all sc) (hb : Below w0.heap.size w0 w) : Env9 w allv vv av all sc := ⟨h.scs.stay hb, h.vars.stay hb, h.arrays.stay hb, h.some⟩
theorem codeL_next (all : List SC) (sc : SC) (l : List ET) (j : Nat) (h : j < l.length) : ET.codeL all sc (l.take (j + 1)) = ET.codeL all sc (l.take j) ++ (l.getD j default).code all sc := ET.codeL_take all sc l j h
theorem nodesL_at : ∀ (l : List ET) (d : Int) (j : Nat), j < l.length → (ET.nodesL l d).all (·.1) = true → exprB (l.getD j default).op (l.getD j default).num (l.getD j default).name (l.getD j default).parts.length = true ∧ (ET.nodesL (l.getD j default).parts (wrap64 (d + 1))).all (·.1) = true
  | [], _, j, hj, _ => absurd hj (by simp)
  | e :: r, d, 0, _, h => by
    simp only [ET.nodesL, List.all_append, Bool.and_eq_true] at h
    cases e with
    | mk o n s l => simp only [ET.nodes, List.all_cons, Bool.and_eq_true] at h; exact h.1
  | e :: r, d, j + 1, hj, h => by
    simp only [ET.nodesL, List.all_append, Bool.and_eq_true] at h
    simp only [List.getD_cons_succ]
    exact nodesL_at r d j (by simpa using hj) h.2
theorem codeL_part (all : List SC) (sc : SC) (l : List ET) (j : Nat) (h : j < l.length) : (ET.codeL all sc (l.take j)).length + ((l.getD j default).code all sc).length ≤ (ET.codeL all sc l).length := by
  have h1 := congrArg List.length (codeL_next all sc l j h)
  rw [List.length_append] at h1
  have h2 : ET.codeL all sc l = ET.codeL all sc (l.take (j + 1)) ++ ET.codeL all sc (l.drop (j + 1)) := by rw [← ET.codeL_append, List.take_append_drop]
  rw [h2, List.length_append]; omega

theorem ret_one {w : World} {base : Nat} {v : Value} {L : List VI} {ol : Nat} {i i' : VI} (hL : L.length = ol) (ho : ol ≤ 100000000) (hi : i = i') (h : w.ownsRow base 47 3 v (ol + 1) (insR L ++ [.int .i64 i'.op, .int .i64 i'.a, .int .i64 i'.n])) : ISl w v (L ++ [i]) := by
  subst hL hi
  refine own_isl (base := base) (e := 47) (by simp; omega) ?_
  rw [insR_append, insR_one, List.length_append]; exact h
set_option maxHeartbeats 16000000 in
set_option maxRecDepth 1000000 in
theorem rexpr_in (w0 : World) (allv vv av : Value) (all : List SC) (sc : SC) (henv : Env9 w0 allv vv av all sc) {lv : Value} {l : List ET} (h : ESl w0 lv l) : ∀ (o n : Int) (s : ByteArray), exprB o n s l.length = true → (∃ d, (ET.nodesL l d).all (·.1) = true) → (ET.codeL all sc l).length ≤ 10000000 →
    ExOk w0 allv (.agg #[.string sc.name, .int .i64 sc.params, vv, av]) all sc lv o n s l := by
  induction h with
  | mk a b off cap l f ha hc hmx hcell hsub ih =>
  rintro o n s hx ⟨d, hn⟩ hlen w hw
  obtain ⟨iT, hi, hz0, hz1, hz2⟩ := info_parts infoIR
  obtain ⟨x1, x2, -, -⟩ := expr_parts hx
  have hm1 : cap ≤ 9223372036854775807 := hmx
  have HEN := Lib.hid (henv.stay hw)
  obtain ⟨va, vn, vc, hvv⟩ := henv.vars.shapeT
  obtain ⟨aa, an, ac, hav⟩ := henv.arrays.shapeT
  obtain ⟨ga, gc, hall⟩ : ∃ a c, allv = .slice a all.length c := by obtain ⟨a, c, h, _⟩ := henv.scs.len9; exact ⟨a, c, h⟩
  subst hvv hav hall
  have HA := Lib.hid ha
  have HI := Lib.hid hcell
  have HS := Lib.hid hsub
  have HIH := Lib.hid ih
  have HND := Lib.hid hn
  have HW := Lib.hid hw
  have HLEN := Lib.hid hlen
  obtain ⟨nm, hnm⟩ : ∃ x, sc.name = x := ⟨_, rfl⟩
  obtain ⟨pm, hpm⟩ : ∃ x, sc.params = x := ⟨_, rfl⟩
  have HNP := Lib.hid (And.intro hnm hpm)
  rw [hnm, hpm]
  clear ha hcell hsub ih hn hw hlen hx henv hnm hpm hmx
  have hp2 : ((w.alloc (.cells #[.string nm, .int .i64 pm, .slice va vn vc, .slice aa an ac] 77)).alloc (.cells #[.int .i64 o, .int .i64 n, .string s, .slice a l.length cap] 51)).heap[w.heap.size]? = some (.cells #[.string nm, .int .i64 pm, .slice va vn vc, .slice aa an ac] 77 (0, 0)) := (Below.heap_alloc _ _ _ (by rw [World.size_alloc]; omega)).trans (heap_alloc_new _ _)
  have hp3 : ((w.alloc (.cells #[.string nm, .int .i64 pm, .slice va vn vc, .slice aa an ac] 77)).alloc (.cells #[.int .i64 o, .int .i64 n, .string s, .slice a l.length cap] 51)).heap[w.heap.size + 1]? = some (.cells #[.int .i64 o, .int .i64 n, .string s, .slice a l.length cap] 51 (0, 0)) := by
    have := heap_alloc_new (w.alloc (.cells #[.string nm, .int .i64 pm, .slice va vn vc, .slice aa an ac] 77)) (.cells #[.int .i64 o, .int .i64 n, .string s, .slice a l.length cap] 51)
    rwa [World.size_alloc] at this
  have HSB := Lib.hid hp2
  have HEB := Lib.hid hp3
  have HBA : Hid (Below w.heap.size w ((w.alloc (.cells #[.string nm, .int .i64 pm, .slice va vn vc, .slice aa an ac] 77)).alloc (.cells #[.int .i64 o, .int .i64 n, .string s, .slice a l.length cap] 51))) := hb_alloc (hb_alloc (hb_start w) _) _
  have HSZ : Hid (((w.alloc (.cells #[.string nm, .int .i64 pm, .slice va vn vc, .slice aa an ac] 77)).alloc (.cells #[.int .i64 o, .int .i64 n, .string s, .slice a l.length cap] 51)).heap.size = w.heap.size + 1 + 1) := by show _ = _; rw [World.size_alloc, World.size_alloc]
  clear hp2 hp3
  go_enter Tryz.func72, Tryz.ntmps72
  go_wp2
  generalize hW0 : (w.alloc (.cells #[.string nm, .int .i64 pm, .slice va vn vc, .slice aa an ac] 77)).alloc (.cells #[.int .i64 o, .int .i64 n, .string s, .slice a l.length cap] 51) = W0 at HSB HEB HBA HSZ ⊢
  clear hW0
  go_loopw [7, 8] (fun v i wr => ∃ j : Nat, i = .int .i64 j ∧ j ≤ l.length ∧ Hid (Below W0.heap.size W0 wr) ∧ Hid (wr.ownsRow W0.heap.size 47 3 v (ET.codeL all sc (l.take j)).length (insR (ET.codeL all sc (l.take j))))) (fun _ i _ => l.length - (intOf i).toNat)
  case atStart => exact ⟨0, rfl, Nat.zero_le _, (Below.refl _ _).alloc (Nat.le_refl _) _, by rw [← HSZ.out]; exact own_empty9 _ _ _ _ (Nat.le_refl _)⟩
  case round =>
    obtain ⟨j, rfl, hjl, HB, HO⟩ := hrel
    obtain ⟨la, lc, rfl⟩ := own_shape HO.out
    have HBS := Lib.hid ((HB.out.block _ (lt_of_heap HSB.out)).trans HSB.out)
    have HBE := Lib.hid ((HB.out.block _ (lt_of_heap HEB.out)).trans HEB.out)
    have s0 : wr.cell? ⟨w.heap.size, 0, none⟩ = some (.string nm) := cell_of_heap HBS.out 0
    have s1 : wr.cell? ⟨w.heap.size, 1, none⟩ = some (.int .i64 pm) := cell_of_heap HBS.out 1
    have s2 : wr.cell? ⟨w.heap.size, 2, none⟩ = some (.slice va vn vc) := cell_of_heap HBS.out 2
    have s3 : wr.cell? ⟨w.heap.size, 3, none⟩ = some (.slice aa an ac) := cell_of_heap HBS.out 3
    have e0 : wr.cell? ⟨w.heap.size + 1, 0, none⟩ = some (.int .i64 o) := cell_of_heap HBE.out 0
    have e1 : wr.cell? ⟨w.heap.size + 1, 1, none⟩ = some (.int .i64 n) := cell_of_heap HBE.out 1
    have e2 : wr.cell? ⟨w.heap.size + 1, 2, none⟩ = some (.string s) := cell_of_heap HBE.out 2
    have e3 : wr.cell? ⟨w.heap.size + 1, 3, none⟩ = some (.slice a l.length cap) := cell_of_heap HBE.out 3
    have HWr : Hid (Below w.heap.size w wr) := HBA.out.trans (HB.out.mono HBA.out.size)
    by_cases hlt : j < l.length
    · obtain rfl := HA.out (by omega)
      obtain ⟨p0, p1, p2, p3⟩ := HI.out j hlt
      have hB0 : Below w0.heap.size w0 wr := HW.out.trans (HWr.out.mono HW.out.size)
      have hz : b < w0.heap.size := lt_of_cell p0
      replace p0 := (hB0.cell (p := ⟨b, off + j * 4, none⟩) hz).trans p0
      replace p1 := (hB0.cell (p := ⟨b, off + j * 4 + 1, none⟩) hz).trans p1
      replace p2 := (hB0.cell (p := ⟨b, off + j * 4 + 2, none⟩) hz).trans p2
      replace p3 := (hB0.cell (p := ⟨b, off + j * 4 + 3, none⟩) hz).trans p3
      obtain ⟨y1, y2⟩ := nodesL_at l d j hlt HND.out
      have hN := codeL_next all sc l j hlt
      have hP := codeL_part all sc l j hlt
      rw [ET.code_parts] at hN hP
      have hI := HIH.out j hlt (l.getD j default).op (l.getD j default).num (l.getD j default).name y1 ⟨_, y2⟩ (by have := HLEN.out; rw [List.length_append] at hP; omega)
      obtain ⟨qa, qc, hq⟩ := (HS.out j hlt).shape0
      rw [hq] at p3 hI
      rw [HNP.out.1, HNP.out.2] at hI
      clear hq y1 y2
      generalize l.getD j default = x at p0 p1 p2 p3 hI hN hP
      generalize hcj : (ET.codeL all sc x.parts ++ [insE all sc x.op x.num x.name]) = cj at hN hP
      unfold ExOk at hI
      rw [hcj] at hI
      generalize x.op = xo at p0 hI
      generalize x.num = xn at p1 hI
      generalize x.name = xs at p2 hI
      generalize x.parts.length = xpl at p3 hI
      have HI2 := Lib.hid hI
      have HN2 := Lib.hid hN
      have HP2 : Hid ((ET.codeL all sc (l.take j)).length + cj.length ≤ 10000000) := by have := HLEN.out; show _ ≤ _; omega
      have HB0' := Lib.hid hB0
      have hjI : (j : Int) < l.length := by omega
      clear hI hN hP hz hB0 hcj
      go_wp2_with fail
      go_still_tail 7, (by kernel_rfl)
      change wpList _ _ _ _ _ wr.drew
      have HBd : Hid (Below W0.heap.size W0 wr.drew) := HB.out.drew
      have HOd := Lib.hid (own_hold9 HO.out (Below.refl _ _).drew)
      have HB0d : Hid (Below w0.heap.size w0 wr.drew) := HB0'.out.drew
      obtain ⟨ol, hol⟩ : ∃ x, (ET.codeL all sc (l.take j)).length = x := ⟨_, rfl⟩
      obtain ⟨xl, hxl⟩ : ∃ x, cj.length = x := ⟨_, rfl⟩
      have HOL := Lib.hid hol
      have HXL := Lib.hid hxl
      rw [hol] at HOd HO ⊢
      have hsum : ol + xl ≤ 10000000 := by have := HP2.out; omega
      clear HB HO HBS HBE HB0' HP2 hol hxl p0 p1 p2 p3 s0 s1 s2 s3 e0 e1 e2 e3
      generalize wr.drew = wd at HBd HOd HB0d ⊢
      go_wp2_with (first
        | (go_at_call 72; refine (HI2.out _ HB0d.out).mono ?_; rintro e w2 ⟨v2, rfl, hb, hv⟩; obtain ⟨ya, yc, hvs⟩ := hv.shape; have hxl := HXL.out; rw [hxl] at hvs; clear hxl; subst hvs; have HV := Lib.hid hv; have HB2 : Hid (Below W0.heap.size W0 w2) := HBd.out.trans (hb.mono HBd.out.size); have HO2 := Lib.hid (own_hold9 HOd.out hb); clear hb hv; obtain ⟨hyn, yb, yo, hya, hyc⟩ := HV.out.src9; have HYA := Lib.hid hya; have HYC := Lib.hid hyc; have HYN := Lib.hid hyn; clear hya hyc hyn)
        | (at_builtin; refine wpList_append_any _ rfl _ _ 42 rfl W0.heap.size 47 iT (.agg #[.int .i64 0, .int .i64 0, .int .i64 0]) 3 24 Tryz.underlying42 hi hz0 hz1 hz2 rfl (by decide) _ _ _ rfl HO2.out ya yb yo xl yc rfl HYA.out (insR cj) (by rw [insR_length, ← HYN.out]) HYC.out (insR_ones _) (by unfold maxLen; omega) (by omega) HB2.out.size ?_; intro v' w3 hown' hgrow; have HO3 := Lib.hid hown'; have HB3 : Hid (Below W0.heap.size W0 w3) := below_own9 HB2.out HB2.out.size HO2.out hgrow; clear hown' hgrow))
      go_roundw
      case rel => exact ⟨j + 1, by go_num, by omega, HB3, by rw [HN2.out, insR_append, List.length_append, HOL.out, HXL.out]; exact HO3.out⟩
      case measure => simp [intOf]; omega
    · obtain rfl : j = l.length := by omega
      rw [List.take_length] at HO ⊢
      have hL := HLEN.out
      obtain ⟨L, hLd⟩ : ∃ x, ET.codeL all sc l = x := ⟨_, rfl⟩
      have HLD := Lib.hid hLd
      rw [hLd] at HO hL ⊢
      clear hLd
      obtain ⟨ol, hol⟩ : ∃ x, L.length = x := ⟨_, rfl⟩
      have HOL := Lib.hid hol
      rw [hol] at HO hL ⊢
      have HTV : Hid (TSl wr (.slice va vn vc) sc.vars) := HEN.out.vars.stay HWr.out
      have HTA : Hid (TSl wr (.slice aa an ac) sc.arrays) := HEN.out.arrays.stay HWr.out
      have HTS : Hid (CSl wr (.slice ga all.length gc) all) := HEN.out.scs.stay HWr.out
      have HSM := HEN.out.some
      have HB1 : Hid (W0.heap.size ≤ wr.heap.size) := HB.out.size
      have HWS : Hid (w.heap.size ≤ W0.heap.size) := HBA.out.size
      clear hol HBS HBE HB HNP HIH HI HS HND HW HLEN HA HEN HSB HEB
      have hc6 : o = 1 ∨ o = 2 ∨ o = 3 ∨ o = 4 ∨ o = 5 ∨ 6 ≤ o := by omega
      rcases hc6 with rfl | rfl | rfl | rfl | rfl | h6

      · have HINS : Hid (insE all sc 1 n s = ⟨1, 0, n⟩) := rfl
        have HC := Lib.hid (cell3_new wr (.int .i64 1) (.int .i64 0) (.int .i64 n) 47)
        have HOA := Lib.hid (HO.out.alloc (.cells #[.int .i64 1, .int .i64 0, .int .i64 n] 47))
        have HBA2 : Hid (Below w.heap.size w (wr.alloc (.cells #[.int .i64 1, .int .i64 0, .int .i64 n] 47))) := hb_alloc HWr _
        have hs2 : W0.heap.size ≤ (wr.alloc (.cells #[.int .i64 1, .int .i64 0, .int .i64 n] 47)).heap.size := Nat.le_trans HB1.out (by rw [World.size_alloc]; omega)
        go_wp2_with (at_builtin; refine wpList_append_own _ rfl _ _ 42 rfl W0.heap.size 47 iT (.agg #[.int .i64 0, .int .i64 0, .int .i64 0]) 3 24 Tryz.underlying42 hi hz0 hz1 hz2 rfl (by decide) _ _ _ rfl HOA.out ⟨wr.heap.size, 0, none⟩ 1 1 [.int .i64 1, .int .i64 0, .int .i64 n] rfl rfl HC.out (by simp [Value.oneCell']) (by unfold maxLen; omega) (by omega) hs2 ?_; intro v' w3 hown' hgrow _; obtain ⟨g', cap', rfl⟩ := ownsRow_succ' hown'; have HO3 := Lib.hid hown'; have HB3 : Hid (Below w.heap.size w w3) := HBA2.out.grown hgrow HBA2.out.size (fun r e => Nat.le_trans HWS.out (HOA.out.lt r e).1); clear hown' hgrow)
        go_ret
        refine ⟨_, rfl, HB3.out, ?_⟩
        rw [HLD.out]
        exact ret_one HOL.out (by omega) HINS.out HO3.out
      · obtain ⟨q, hq⟩ : ∃ q, slotI sc.vars s = q := ⟨_, rfl⟩
        have HINS : Hid (insE all sc 2 n s = ⟨2, q, 0⟩) := by show _ = _; rw [← hq]; rfl
        have HQ := Lib.hid hq
        clear hq
        have HC := Lib.hid (cell3_new wr (.int .i64 2) (.int .i64 q) (.int .i64 0) 47)
        have HOA := Lib.hid (HO.out.alloc (.cells #[.int .i64 2, .int .i64 q, .int .i64 0] 47))
        have HBA2 : Hid (Below w.heap.size w (wr.alloc (.cells #[.int .i64 2, .int .i64 q, .int .i64 0] 47))) := hb_alloc HWr _
        have hs2 : W0.heap.size ≤ (wr.alloc (.cells #[.int .i64 2, .int .i64 q, .int .i64 0] 47)).heap.size := Nat.le_trans HB1.out (by rw [World.size_alloc]; omega)
        go_wp2_with (first
          | (go_at_call 73; refine (place_r _ sc.vars s _ HTV.out _ HQ.out).mono ?_; rintro e w' ⟨rfl, hw9⟩; replace hw9 := hw9.symm; subst hw9)
          | (at_builtin; refine wpList_append_own _ rfl _ _ 42 rfl W0.heap.size 47 iT (.agg #[.int .i64 0, .int .i64 0, .int .i64 0]) 3 24 Tryz.underlying42 hi hz0 hz1 hz2 rfl (by decide) _ _ _ rfl HOA.out ⟨wr.heap.size, 0, none⟩ 1 1 [.int .i64 2, .int .i64 q, .int .i64 0] rfl rfl HC.out (by simp [Value.oneCell']) (by unfold maxLen; omega) (by omega) hs2 ?_; intro v' w3 hown' hgrow _; obtain ⟨g', cap', rfl⟩ := ownsRow_succ' hown'; have HO3 := Lib.hid hown'; have HB3 : Hid (Below w.heap.size w w3) := HBA2.out.grown hgrow HBA2.out.size (fun r e => Nat.le_trans HWS.out (HOA.out.lt r e).1); clear hown' hgrow))
        go_ret
        refine ⟨_, rfl, HB3.out, ?_⟩
        rw [HLD.out]
        exact ret_one HOL.out (by omega) HINS.out HO3.out
      · have HINS : Hid (insE all sc 3 n s = ⟨25, 0, 0⟩) := rfl
        have HC := Lib.hid (cell3_new wr (.int .i64 25) (.int .i64 0) (.int .i64 0) 47)
        have HOA := Lib.hid (HO.out.alloc (.cells #[.int .i64 25, .int .i64 0, .int .i64 0] 47))
        have HBA2 : Hid (Below w.heap.size w (wr.alloc (.cells #[.int .i64 25, .int .i64 0, .int .i64 0] 47))) := hb_alloc HWr _
        have hs2 : W0.heap.size ≤ (wr.alloc (.cells #[.int .i64 25, .int .i64 0, .int .i64 0] 47)).heap.size := Nat.le_trans HB1.out (by rw [World.size_alloc]; omega)
        go_wp2_with (at_builtin; refine wpList_append_own _ rfl _ _ 42 rfl W0.heap.size 47 iT (.agg #[.int .i64 0, .int .i64 0, .int .i64 0]) 3 24 Tryz.underlying42 hi hz0 hz1 hz2 rfl (by decide) _ _ _ rfl HOA.out ⟨wr.heap.size, 0, none⟩ 1 1 [.int .i64 25, .int .i64 0, .int .i64 0] rfl rfl HC.out (by simp [Value.oneCell']) (by unfold maxLen; omega) (by omega) hs2 ?_; intro v' w3 hown' hgrow _; obtain ⟨g', cap', rfl⟩ := ownsRow_succ' hown'; have HO3 := Lib.hid hown'; have HB3 : Hid (Below w.heap.size w w3) := HBA2.out.grown hgrow HBA2.out.size (fun r e => Nat.le_trans HWS.out (HOA.out.lt r e).1); clear hown' hgrow)
        go_ret
        refine ⟨_, rfl, HB3.out, ?_⟩
        rw [HLD.out]
        exact ret_one HOL.out (by omega) HINS.out HO3.out
      · obtain ⟨q, hq⟩ : ∃ q, slotI sc.arrays s = q := ⟨_, rfl⟩
        have HINS : Hid (insE all sc 4 n s = ⟨23, q, 0⟩) := by show _ = _; rw [← hq]; rfl
        have HQ := Lib.hid hq
        clear hq
        have HC := Lib.hid (cell3_new wr (.int .i64 23) (.int .i64 q) (.int .i64 0) 47)
        have HOA := Lib.hid (HO.out.alloc (.cells #[.int .i64 23, .int .i64 q, .int .i64 0] 47))
        have HBA2 : Hid (Below w.heap.size w (wr.alloc (.cells #[.int .i64 23, .int .i64 q, .int .i64 0] 47))) := hb_alloc HWr _
        have hs2 : W0.heap.size ≤ (wr.alloc (.cells #[.int .i64 23, .int .i64 q, .int .i64 0] 47)).heap.size := Nat.le_trans HB1.out (by rw [World.size_alloc]; omega)
        go_wp2_with (first
          | (go_at_call 73; refine (place_r _ sc.arrays s _ HTA.out _ HQ.out).mono ?_; rintro e w' ⟨rfl, hw9⟩; replace hw9 := hw9.symm; subst hw9)
          | (at_builtin; refine wpList_append_own _ rfl _ _ 42 rfl W0.heap.size 47 iT (.agg #[.int .i64 0, .int .i64 0, .int .i64 0]) 3 24 Tryz.underlying42 hi hz0 hz1 hz2 rfl (by decide) _ _ _ rfl HOA.out ⟨wr.heap.size, 0, none⟩ 1 1 [.int .i64 23, .int .i64 q, .int .i64 0] rfl rfl HC.out (by simp [Value.oneCell']) (by unfold maxLen; omega) (by omega) hs2 ?_; intro v' w3 hown' hgrow _; obtain ⟨g', cap', rfl⟩ := ownsRow_succ' hown'; have HO3 := Lib.hid hown'; have HB3 : Hid (Below w.heap.size w w3) := HBA2.out.grown hgrow HBA2.out.size (fun r e => Nat.le_trans HWS.out (HOA.out.lt r e).1); clear hown' hgrow))
        go_ret
        refine ⟨_, rfl, HB3.out, ?_⟩
        rw [HLD.out]
        exact ret_one HOL.out (by omega) HINS.out HO3.out
      · obtain ⟨q, hq⟩ : ∃ q, findI all s = q := ⟨_, rfl⟩
        have HINS : Hid (insE all sc 5 n s = ⟨17, q, 0⟩) := by show _ = _; rw [← hq]; rfl
        have HQ := Lib.hid hq
        clear hq
        have HC := Lib.hid (cell3_new wr (.int .i64 17) (.int .i64 q) (.int .i64 0) 47)
        have HOA := Lib.hid (HO.out.alloc (.cells #[.int .i64 17, .int .i64 q, .int .i64 0] 47))
        have HBA2 : Hid (Below w.heap.size w (wr.alloc (.cells #[.int .i64 17, .int .i64 q, .int .i64 0] 47))) := hb_alloc HWr _
        have hs2 : W0.heap.size ≤ (wr.alloc (.cells #[.int .i64 17, .int .i64 q, .int .i64 0] 47)).heap.size := Nat.le_trans HB1.out (by rw [World.size_alloc]; omega)
        go_wp2_with (first
          | (go_at_call 88; refine (function_r _ all s _ HTS.out HSM _ HQ.out).mono ?_; rintro e w' ⟨rfl, hw9⟩; replace hw9 := hw9.symm; subst hw9)
          | (at_builtin; refine wpList_append_own _ rfl _ _ 42 rfl W0.heap.size 47 iT (.agg #[.int .i64 0, .int .i64 0, .int .i64 0]) 3 24 Tryz.underlying42 hi hz0 hz1 hz2 rfl (by decide) _ _ _ rfl HOA.out ⟨wr.heap.size, 0, none⟩ 1 1 [.int .i64 17, .int .i64 q, .int .i64 0] rfl rfl HC.out (by simp [Value.oneCell']) (by unfold maxLen; omega) (by omega) hs2 ?_; intro v' w3 hown' hgrow _; obtain ⟨g', cap', rfl⟩ := ownsRow_succ' hown'; have HO3 := Lib.hid hown'; have HB3 : Hid (Below w.heap.size w w3) := HBA2.out.grown hgrow HBA2.out.size (fun r e => Nat.le_trans HWS.out (HOA.out.lt r e).1); clear hown' hgrow))
        go_ret
        refine ⟨_, rfl, HB3.out, ?_⟩
        rw [HLD.out]
        exact ret_one HOL.out (by omega) HINS.out HO3.out
      · have HINS : Hid (insE all sc o n s = ⟨o - 2, 0, 0⟩) := by
          show _ = _
          unfold insE
          rw [if_neg (by omega), if_neg (by omega), if_neg (by omega), if_neg (by omega), if_neg (by omega)]
          have : wrap64 (wrap64 (o - 6) + 4) = o - 2 := by unfold wrap64; omega
          rw [this]
        have t1 : (o == 1) = false := by simp; omega
        have t2 : (o == 2) = false := by simp; omega
        have t3 : (o == 3) = false := by simp; omega
        have t4 : (o == 4) = false := by simp; omega
        have t5 : (o == 5) = false := by simp; omega
        have HC := Lib.hid (cell3_new wr (.int .i64 (o - 2)) (.int .i64 0) (.int .i64 0) 47)
        have HOA := Lib.hid (HO.out.alloc (.cells #[.int .i64 (o - 2), .int .i64 0, .int .i64 0] 47))
        have HBA2 : Hid (Below w.heap.size w (wr.alloc (.cells #[.int .i64 (o - 2), .int .i64 0, .int .i64 0] 47))) := hb_alloc HWr _
        have hs2 : W0.heap.size ≤ (wr.alloc (.cells #[.int .i64 (o - 2), .int .i64 0, .int .i64 0] 47)).heap.size := Nat.le_trans HB1.out (by rw [World.size_alloc]; omega)
        go_wp2_with (first
          | (go_at_call 89; refine (op_r o _ h6 (by omega)).mono ?_; rintro e w' ⟨rfl, hw9⟩; replace hw9 := hw9.symm; subst hw9)
          | (at_builtin; refine wpList_append_own _ rfl _ _ 42 rfl W0.heap.size 47 iT (.agg #[.int .i64 0, .int .i64 0, .int .i64 0]) 3 24 Tryz.underlying42 hi hz0 hz1 hz2 rfl (by decide) _ _ _ rfl HOA.out ⟨wr.heap.size, 0, none⟩ 1 1 [.int .i64 (o - 2), .int .i64 0, .int .i64 0] rfl rfl HC.out (by simp [Value.oneCell']) (by unfold maxLen; omega) (by omega) hs2 ?_; intro v' w3 hown' hgrow _; obtain ⟨g', cap', rfl⟩ := ownsRow_succ' hown'; have HO3 := Lib.hid hown'; have HB3 : Hid (Below w.heap.size w w3) := HBA2.out.grown hgrow HBA2.out.size (fun r e => Nat.le_trans HWS.out (HOA.out.lt r e).1); clear hown' hgrow))
        go_ret
        refine ⟨_, rfl, HB3.out, ?_⟩
        rw [HLD.out]
        exact ret_one HOL.out (by omega) HINS.out HO3.out
end Go.Proofs.YthjjcmmonjajhaaGreatDoor
namespace Go.Proofs.YthjjcmmonjajhaaGreatDoor
open Go.RowKit Go.Sort
set_option linter.unusedVariables false

theorem shiftL_append (k : Int) (a b : List VI) : shiftL k (a ++ b) = shiftL k a ++ shiftL k b := by unfold shiftL; rw [List.map_append]
theorem shiftL_one (k : Int) (i : VI) : shiftL k [i] = [shift k i] := rfl
theorem shift_jump (k : Int) {o : Int} (a : Int) (h : o = 15 ∨ o = 16) : shift k ⟨o, a, 0⟩ = ⟨o, a + k, 0⟩ := if_pos h
theorem shift_no (k : Int) {i : VI} (h : i.op ≠ 15 ∧ i.op ≠ 16) : shift k i = i := if_neg (fun e => by rcases e with e | e; exact h.1 e; exact h.2 e)
theorem two_jumps (A B C : List VI) {p p' q q' : VI} (h : p = p') (h' : q = q') : A ++ [p] ++ B ++ [q] ++ C = A ++ [p'] ++ B ++ [q'] ++ C := by rw [h, h']
theorem two_jumps' (A B : List VI) {p p' q q' : VI} (h : p = p') (h' : q = q') : A ++ [p] ++ B ++ [q] = A ++ [p'] ++ B ++ [q'] := by rw [h, h']
section
variable {all : List SC} {sc : SC}
theorem insE_nj {o n : Int} {s : ByteArray} {m : Nat} (hx : exprB o n s m = true) : (insE all sc o n s).op ≠ 15 ∧ (insE all sc o n s).op ≠ 16 := by
  obtain ⟨h1, h2, _, _⟩ := expr_parts hx
  unfold insE
  by_cases e1 : o = 1
  · rw [if_pos e1]; dsimp only; omega
  · rw [if_neg e1]
    by_cases e2 : o = 2
    · rw [if_pos e2]; dsimp only; omega
    · rw [if_neg e2]
      by_cases e3 : o = 3
      · rw [if_pos e3]; dsimp only; omega
      · rw [if_neg e3]
        by_cases e4 : o = 4
        · rw [if_pos e4]; dsimp only; omega
        · rw [if_neg e4]
          by_cases e5 : o = 5
          · rw [if_pos e5]; dsimp only; omega
          · rw [if_neg e5]
            have : wrap64 (wrap64 (o - 6) + 4) = o - 2 := by unfold wrap64; omega
            rw [this]; dsimp only; omega
theorem insS_nj {o n : Int} {s : ByteArray} {m b e : Nat} (hx : stmtB o n s m b e = true) (hb : ¬ (o = 7 ∨ o = 8)) : (insS sc o n s).op ≠ 15 ∧ (insS sc o n s).op ≠ 16 := by
  obtain ⟨h1, h2, _⟩ := stmt_parts hx
  have hc : o = 1 ∨ o = 2 ∨ o = 3 ∨ o = 4 ∨ o = 5 ∨ o = 6 ∨ o = 9 := by omega
  rcases hc with rfl | rfl | rfl | rfl | rfl | rfl | rfl
  all_goals (unfold insS; refine ⟨?_, ?_⟩ <;> simp)
mutual
theorem ET.shift_code (k : Int) : ∀ (e : ET) (d : Int), (e.nodes d).all (·.1) = true → shiftL k (e.code all sc) = e.code all sc
  | .mk o n s l, d, hn => by
    simp only [ET.nodes, List.all_cons, Bool.and_eq_true] at hn
    simp only [ET.code]
    rw [shiftL_append, ET.shift_codeL k l _ hn.2, shiftL_one, shift_no k (insE_nj hn.1)]
theorem ET.shift_codeL (k : Int) : ∀ (l : List ET) (d : Int), (ET.nodesL l d).all (·.1) = true → shiftL k (ET.codeL all sc l) = ET.codeL all sc l
  | [], _, _ => rfl
  | e :: r, d, hn => by
    simp only [ET.nodesL, List.all_append, Bool.and_eq_true] at hn
    simp only [ET.codeL]
    rw [shiftL_append, ET.shift_code k e d hn.1, ET.shift_codeL k r d hn.2]
end
mutual
theorem ST.shift_code (k : Nat) : ∀ (s : ST) (a : Nat) (d : Int), (s.nodes d).all (·.1) = true → s.code all sc (a + k) = shiftL k (s.code all sc a)
  | .mk o n s l b e, a, d, hn => by
    simp only [ST.nodes, List.all_cons, List.all_append, Bool.and_eq_true] at hn
    obtain ⟨hn1, hn2, hn3, hn4⟩ := hn
    have hx := ET.shift_codeL (all := all) (sc := sc) (k : Int) l _ hn2
    have hb := ST.shift_codeL k b (a + (ET.codeL all sc l).length + 1) _ hn3
    simp only [ST.code]
    by_cases h : o = 7 ∨ o = 8
    · rw [if_pos h, if_pos h]
      rw [show a + k + (ET.codeL all sc l).length + 1 = a + (ET.codeL all sc l).length + 1 + k by omega, hb, shiftL_len]
      by_cases h7 : o = 7
      · rw [if_pos h7, if_pos h7]
        have he := ST.shift_codeL k e (a + (ET.codeL all sc l).length + 1 + (ST.codeL all sc b (a + (ET.codeL all sc l).length + 1)).length + 1) _ hn4
        rw [show a + (ET.codeL all sc l).length + 1 + k + (ST.codeL all sc b (a + (ET.codeL all sc l).length + 1)).length + 1 = a + (ET.codeL all sc l).length + 1 + (ST.codeL all sc b (a + (ET.codeL all sc l).length + 1)).length + 1 + k by omega, he, shiftL_len]
        simp only [shiftL_append, shiftL_one, hx, shift_jump k _ (Or.inr rfl), shift_jump k _ (Or.inl rfl)]
        exact two_jumps _ _ _ (by first | rfl | (congr 1; omega)) (by first | rfl | (congr 1; omega))
      · rw [if_neg h7, if_neg h7]
        simp only [shiftL_append, shiftL_one, hx, shift_jump k _ (Or.inr rfl), shift_jump k _ (Or.inl rfl)]
        exact two_jumps' _ _ (by first | rfl | (congr 1; omega)) (by first | rfl | (congr 1; omega))
    · rw [if_neg h, if_neg h, shiftL_append, hx, shiftL_one, shift_no _ (insS_nj hn1 h)]
theorem ST.shift_codeL (k : Nat) : ∀ (l : List ST) (a : Nat) (d : Int), (ST.nodesL l d).all (·.1) = true → ST.codeL all sc l (a + k) = shiftL k (ST.codeL all sc l a)
  | [], _, _, _ => rfl
  | s :: r, a, d, hn => by
    simp only [ST.nodesL, List.all_append, Bool.and_eq_true] at hn
    simp only [ST.codeL]
    rw [shiftL_append, ST.shift_code k s a d hn.1, shiftL_len, show a + k + (ST.code all sc s a).length = a + (ST.code all sc s a).length + k by omega, ST.shift_codeL k r _ d hn.2]
end
end
end Go.Proofs.YthjjcmmonjajhaaGreatDoor
