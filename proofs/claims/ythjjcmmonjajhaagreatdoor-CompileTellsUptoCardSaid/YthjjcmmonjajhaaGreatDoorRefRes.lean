/- The reference's Resolve: the names of a program. -/
import Derived.Test.YthjjcmmonjajhaaGreatDoorRefScope
import Derived.Test.YthjjcmmonjajhaaGreatDoorTellsR
import Derived.Test.YthjjcmmonjajhaaGreatDoorEndsKit
import Derived.Test.YthjjcmmonjajhaaGreatDoorFlows
namespace Go.Proofs.YthjjcmmonjajhaaGreatDoor
open Go.RowKit Go.Sort
set_option linter.unusedVariables false

mutual
theorem ET.uses_nodes : ∀ (e : ET) (d : Int), (ET.uses e).length ≤ (ET.nodes e d).length
  | .mk o n s l, d => by
    simp only [ET.uses, ET.nodes, List.length_append, List.length_cons]
    have h1 := ET.usesL_nodes l (wrap64 (d + 1))
    have h2 : (ownU o s l.length).length ≤ 1 := by
      unfold ownU; split <;> (try split) <;> (try split) <;> simp
    omega
theorem ET.usesL_nodes : ∀ (l : List ET) (d : Int), (ET.usesL l).length ≤ (ET.nodesL l d).length
  | [], d => by simp [ET.usesL]
  | e :: r, d => by
    simp only [ET.usesL, ET.nodesL, List.length_append]
    have h1 := ET.uses_nodes e d
    have h2 := ET.usesL_nodes r d
    omega
end
mutual
theorem ST.uses_nodes : ∀ (e : ST) (d : Int), (ST.uses e).length ≤ (ST.nodes e d).length
  | .mk o n s l b e, d => by
    simp only [ST.uses, ST.nodes, List.length_append, List.length_cons]
    have h1 := ET.usesL_nodes l (wrap64 (d + 1))
    have h3 := ST.usesL_nodes b (wrap64 (d + 1))
    have h4 := ST.usesL_nodes e (wrap64 (d + 1))
    have h2 : (ownV o s).length ≤ 1 := by
      unfold ownV; split <;> (try split) <;> (try split) <;> simp
    omega
theorem ST.usesL_nodes : ∀ (l : List ST) (d : Int), (ST.usesL l).length ≤ (ST.nodesL l d).length
  | [], d => by simp [ST.usesL]
  | e :: r, d => by
    simp only [ST.usesL, ST.nodesL, List.length_append]
    have h1 := ST.uses_nodes e d
    have h2 := ST.usesL_nodes r d
    omega
end
/-- A scope as it is told. -/
def ScV (B : Nat) (p : PT) (f : FT) (x : Value) (w : World) : Prop :=
  ∃ (va aa : Option Addr) (vc ac : Nat) (vl al : List ByteArray), x = .agg #[.string f.name, .int .i64 f.params.length, .slice va vl.length vc, .slice aa al.length ac] ∧ OwnS B w (.slice va vl.length vc) vl ∧ OwnS B w (.slice aa al.length ac) al ∧ ((FT.found p.funcs f).fits = true → vl = (FT.found p.funcs f).vars ∧ al = (FT.found p.funcs f).arrays)
theorem ScV.stay {B : Nat} {p : PT} {f : FT} {x : Value} {w w' : World} (h : ScV B p f x w) (hb : Below w.heap.size w w') : ScV B p f x w' := by
  obtain ⟨va, aa, vc, ac, vl, al, h1, h2, h3, h4⟩ := h
  exact ⟨va, aa, vc, ac, vl, al, h1, h2.stay hb, h3.stay hb, h4⟩
theorem ScV.lower {B B' : Nat} {p : PT} {f : FT} {x : Value} {w : World} (h : ScV B p f x w) (hb : B' ≤ B) : ScV B' p f x w := by
  obtain ⟨va, aa, vc, ac, vl, al, h1, h2, h3, h4⟩ := h
  exact ⟨va, aa, vc, ac, vl, al, h1, own_lower h2 hb, own_lower h3 hb, h4⟩
theorem uscope_f (a1 a2 : Option Addr) (n1 n2 k1 k2 : Nat) (p : PT) (f : FT) (nm : ByteArray) (psv bv : Value) (hnm : f.name = nm) (hn32 : n1 ≤ 32) (hpl : f.params.length ≤ 8) (hul : (ST.usesL f.body).length ≤ 10000000) (w : World) (hp : PR w (.slice a1 n1 k1) (.slice a2 n2 k2) p) (hps : TSl w psv f.params) (hbv : SSl w bv f.body) (q : Bool) (hq : (FT.found p.funcs f).fits = q) :
    Calls Tryz.prog 20 #[.agg #[.slice a1 n1 k1, .slice a2 n2 k2], .agg #[.string nm, psv, bv]] w fun e w' => ∃ x, e = .returned (.tuple #[x, .bool q]) ∧ Below w.heap.size w w' ∧ ScV w.heap.size p f x w' := by
  subst hnm
  obtain ⟨nm, ps, body⟩ := f
  refine (uscope_r a1 a2 n1 n2 k1 k2 p nm ps body psv bv hn32 hpl hul w hp hps hbv).mono ?_
  rintro e w' ⟨vv, av, ok, vl, al, rfl, hb, hv, ha, hok, hf⟩
  obtain ⟨va, vc, rfl⟩ := hv.shape
  obtain ⟨aa, ac, rfl⟩ := ha.shape
  rw [hq] at hok
  subst hok
  exact ⟨_, rfl, hb, va, aa, vc, ac, vl, al, rfl, hv, ha, fun h => hf (hq.symm.trans h)⟩
/-- The scopes of the first k functions, as far as Resolve has come, and whether all of them fit. -/
structure RRs (w0 : World) (p : PT) (l : List FT) (k : Nat) (ok : Bool) (lv : Value) (wr : World) : Prop where
  below : Below w0.heap.size w0 wr
  all : (l.take k).all (fun f => (f.found p.funcs).fits) = ok
  got : ∃ (vs ars : Nat → Value) (vl al : Nat → List ByteArray), wr.ownsRow w0.heap.size 77 4 lv k (scRows l vs ars k) ∧ ∀ i, i < k → OwnS w0.heap.size wr (vs i) (vl i) ∧ OwnS w0.heap.size wr (ars i) (al i) ∧ (((l.getD i default).found p.funcs).fits = true → vl i = ((l.getD i default).found p.funcs).vars ∧ al i = ((l.getD i default).found p.funcs).arrays)
theorem RRs.row {w0 wr : World} {p : PT} {l : List FT} {k : Nat} {ok : Bool} {lv : Value} (h : RRs w0 p l k ok lv wr) : ∃ xs, wr.ownsRow w0.heap.size 77 4 lv k xs := by
  obtain ⟨_, _, vs, ars, vl, al, h2, _⟩ := h; exact ⟨_, h2⟩
theorem RRs.next {w0 wr wx w' : World} {p : PT} {l : List FT} {k : Nat} {ok q : Bool} {lv v' x y : Value} {vl0 al0 : List ByteArray} {f : FT} (h : RRs w0 p l k ok lv wr) (hb : Below wr.heap.size wr wx) (hk : k < l.length) (hf : l.getD k default = f)
    (hx : OwnS w0.heap.size wx x vl0) (hy : OwnS w0.heap.size wx y al0) (hq : (f.found p.funcs).fits = q) (hva : (f.found p.funcs).fits = true → vl0 = (f.found p.funcs).vars ∧ al0 = (f.found p.funcs).arrays) (hg : wx.grownBy w' lv.ownBlock)
    (ho : ∃ xs, wx.ownsRow w0.heap.size 77 4 lv k xs ∧ w'.ownsRow w0.heap.size 77 4 v' (k + 1) (xs ++ [.string f.name, .int .i64 f.params.length, x, y])) : RRs w0 p l (k + 1) (ok && q) v' w' := by
  obtain ⟨h1, hok, vs, ars, vl, al, h2, h3⟩ := h
  have h2' := own_hold9 h2 hb
  refine ⟨(h1.trans (hb.mono h1.size)).grown hg (Nat.le_trans h1.size hb.size) (fun r e => own_ge h2' e), ?_, fun i => if i = k then x else vs i, fun i => if i = k then y else ars i, fun i => if i = k then vl0 else vl i, fun i => if i = k then al0 else al i, ?_, ?_⟩
  · rw [all_next l default _ k hk, hok, hf, hq]
  · have e : scRows l (fun i => if i = k then x else vs i) (fun i => if i = k then y else ars i) (k + 1) = scRows l vs ars k ++ [.string f.name, .int .i64 f.params.length, x, y] := by
      unfold scRows
      rw [List.range_succ, List.flatMap_append, rows_congr _ (scC l vs ars) k (fun i hi => by unfold scC; dsimp only; rw [if_neg (by omega), if_neg (by omega)])]
      simp [scC]
      rw [← List.getD_eq_getElem?_getD, hf]
      exact ⟨rfl, rfl⟩
    rw [e]
    obtain ⟨xs, o1, o2⟩ := ho
    rw [own_unique o1 h2'] at o2
    exact o2
  · intro i hi
    by_cases e : i = k
    · subst e
      dsimp only
      rw [if_pos rfl, if_pos rfl, if_pos rfl, if_pos rfl, hf]
      exact ⟨own_other hx h2' (by decide) hg, own_other hy h2' (by decide) hg, hva⟩
    · dsimp only
      rw [if_neg e, if_neg e, if_neg e, if_neg e]
      obtain ⟨q1, q2, q3⟩ := h3 i (by omega)
      exact ⟨own_other (own_hold9 q1 hb) h2' (by decide) hg, own_other (own_hold9 q2 hb) h2' (by decide) hg, q3⟩
theorem RRs.csl {w0 wr : World} {p : PT} {l : List FT} {lv : Value} (h : RRs w0 p l l.length true lv wr) : CSl wr lv (l.map (FT.sc p.funcs)) := by
  obtain ⟨_, hok, vs, ars, vl, al, h2, h3⟩ := h
  rw [List.take_length] at hok
  have hat : ∀ i, i < l.length → (l.map (FT.sc p.funcs)).getD i default = FT.sc p.funcs (l.getD i default) := fun i hi => by
    rw [List.getD_eq_getElem?_getD, List.getElem?_map, List.getElem?_eq_getElem hi, List.getD_eq_getElem?_getD, List.getElem?_eq_getElem hi]; rfl
  have hfi : ∀ i, i < l.length → ((l.getD i default).found p.funcs).fits = true := fun i hi => by
    have := List.all_eq_true.1 hok (l.getD i default) (by rw [List.getD_eq_getElem?_getD, List.getElem?_eq_getElem hi]; exact List.getElem_mem _)
    exact this
  have h2' := h2
  obtain ⟨_, ⟨rfl, h0⟩ | ⟨q, cap', cur, rfl, _, hk, hn, hmx, hsz, ht⟩⟩ := h2
  · obtain rfl : l = [] := List.eq_nil_of_length_eq_zero (by omega)
    exact .mk none 0 0 0 [] (fun _ => .nilIface) (fun _ => .nilIface) (fun h => absurd h (by simp)) (Nat.le_refl _) (Nat.zero_le _) (fun i hi => absurd hi (by simp)) (fun i hi => absurd hi (by simp)) (fun i hi => absurd hi (by simp))
  · have hL : (l.map (FT.sc p.funcs)).length = l.length := by simp
    have key := CSl.mk (w := wr) (some ⟨q, 0, none⟩) q 0 cap' (l.map (FT.sc p.funcs)) vs ars (fun _ => rfl) (by omega) hmx
      (fun i hi => by
        rw [hL] at hi
        rw [hat i hi]
        have hc : ∀ j, j < 4 → wr.cell? ⟨q, i * 4 + j, none⟩ = (scC l vs ars i)[j]? := fun j hj => by
          rw [own_cell h2' _ (by omega)]
          exact rows_at 4 (scC l vs ars) (fun _ => rfl) _ i j hi hj
        simp only [Nat.zero_add]
        exact ⟨hc 0 (by omega), hc 1 (by omega), hc 2 (by omega), hc 3 (by omega)⟩)
      (fun i hi => by rw [hL] at hi; rw [hat i hi]; obtain ⟨q1, q2, q3⟩ := h3 i hi; have := q1.tsl; rw [(q3 (hfi i hi)).1] at this; exact this)
      (fun i hi => by rw [hL] at hi; rw [hat i hi]; obtain ⟨q1, q2, q3⟩ := h3 i hi; have := q2.tsl; rw [(q3 (hfi i hi)).2] at this; exact this)
    rwa [hL] at key
/-- The box that a scope was put into. -/
def ScB (B : Nat) (p : PT) (f : FT) (g : Nat) (w : World) : Prop :=
  ∃ (va aa : Option Addr) (vc ac : Nat) (vl al : List ByteArray), w.heap[g]? = some (.cells #[.string f.name, .int .i64 f.params.length, .slice va vl.length vc, .slice aa al.length ac] 77 (0, 0)) ∧ OwnS B w (.slice va vl.length vc) vl ∧ OwnS B w (.slice aa al.length ac) al ∧ ((FT.found p.funcs f).fits = true → vl = (FT.found p.funcs f).vars ∧ al = (FT.found p.funcs f).arrays)
/-- What is known of the call of scope, of the box that its answer goes into: ahead of the store (false), and behind it. -/
def PRb (B B' : Nat) (p : PT) (f : FT) (q : Bool) (vals : List Value) (b : Bool) (j : Nat) (v : Value) (w : World) : Prop :=
  (j ∉ [6, 7, 8, 10, 11] → v = vals.getD j undef) ∧ (j = 6 → ∃ x, v = .tuple #[x, .bool q] ∧ (b = false → ScV B p f x w)) ∧ (j = 7 → ∃ x, v = .tuple #[x, .bool q] ∧ (b = false → ScV B p f x w)) ∧ (j = 8 → b = false → ScV B p f v w) ∧
  (j = 10 → ∃ g, v = .pointer (some ⟨g, 0, none⟩) ∧ B' ≤ g ∧ (b = false → w.heap[g]? = some (.cells #[.string ⟨#[]⟩, .int .i64 0, .slice none 0 0, .slice none 0 0] 77 (0, 0))) ∧ (b = true → ScB B p f g w))
section
variable {B B' : Nat} {p : PT} {f : FT} {q b : Bool} {vals : List Value} {j : Nat} {v : Value} {w w' : World}
theorem PRb.known (h : j ∉ [6, 7, 8, 10, 11]) : PRb B B' p f q vals b j (vals.getD j undef) w :=
  ⟨fun _ => rfl, fun e => absurd (by subst e; decide) h, fun e => absurd (by subst e; decide) h, fun e => absurd (by subst e; decide) h, fun e => absurd (by subst e; decide) h⟩
theorem PRb.six {x : Value} (hx : ScV B p f x w) : PRb B B' p f q vals b 6 (.tuple #[x, .bool q]) w :=
  ⟨fun h => absurd (by decide) h, fun _ => ⟨x, rfl, fun _ => hx⟩, (fun e => absurd e (by decide)), (fun e => absurd e (by decide)), (fun e => absurd e (by decide))⟩
theorem PRb.seven {x : Value} (hx : ScV B p f x w) : PRb B B' p f q vals b 7 (.tuple #[x, .bool q]) w :=
  ⟨fun h => absurd (by decide) h, (fun e => absurd e (by decide)), fun _ => ⟨x, rfl, fun _ => hx⟩, (fun e => absurd e (by decide)), (fun e => absurd e (by decide))⟩
theorem PRb.eight {x : Value} (hx : ScV B p f x w) : PRb B B' p f q vals b 8 x w :=
  ⟨fun h => absurd (by decide) h, (fun e => absurd e (by decide)), (fun e => absurd e (by decide)), fun _ _ => hx, (fun e => absurd e (by decide))⟩
theorem PRb.ten {g : Nat} (hg : B' ≤ g) (h : w.heap[g]? = some (.cells #[.string ⟨#[]⟩, .int .i64 0, .slice none 0 0, .slice none 0 0] 77 (0, 0))) : PRb B B' p f q vals false 10 (.pointer (some ⟨g, 0, none⟩)) w :=
  ⟨fun h => absurd (by decide) h, (fun e => absurd e (by decide)), (fun e => absurd e (by decide)), (fun e => absurd e (by decide)), fun _ => ⟨g, rfl, hg, fun _ => h, (fun e => absurd e (by decide))⟩⟩
theorem PRb.ten2 {g : Nat} (hg : B' ≤ g) (h : ScB B p f g w) : PRb B B' p f q vals true 10 (.pointer (some ⟨g, 0, none⟩)) w :=
  ⟨fun h => absurd (by decide) h, (fun e => absurd e (by decide)), (fun e => absurd e (by decide)), (fun e => absurd e (by decide)), fun _ => ⟨g, rfl, hg, (fun e => absurd e (by decide)), fun _ => h⟩⟩
theorem PRb.eleven : PRb B B' p f q vals true 11 v w :=
  ⟨fun h => absurd (by decide) h, (fun e => absurd e (by decide)), (fun e => absurd e (by decide)), (fun e => absurd e (by decide)), (fun e => absurd e (by decide))⟩
theorem PRb.stay (h : PRb B B' p f q vals false j v w) (hb : Below w.heap.size w w') : PRb B B' p f q vals false j v w' := by
  obtain ⟨h0, h1, h2, h3, h4⟩ := h
  refine ⟨h0, fun e => ?_, fun e => ?_, fun e hb' => (h3 e hb').stay hb, fun e => ?_⟩
  · obtain ⟨x, e1, h⟩ := h1 e; exact ⟨x, e1, fun hf => (h hf).stay hb⟩
  · obtain ⟨x, e1, h⟩ := h2 e; exact ⟨x, e1, fun hf => (h hf).stay hb⟩
  · obtain ⟨g, e1, h, hg, _⟩ := h4 e; exact ⟨g, e1, h, fun hf => (hb.block g (lt_of_heap (hg hf))).trans (hg hf), fun hf => by cases hf⟩
/-- Behind the store: all but the box's is as it was. -/
theorem PRb.turn (hj : j ≠ 10) (h : PRb B B' p f q vals false j v w) : PRb B B' p f q vals true j v w' := by
  obtain ⟨h0, h1, h2, h3, h4⟩ := h
  refine ⟨h0, fun e => ?_, fun e => ?_, (fun e hb' => by cases hb'), fun e => absurd e hj⟩
  · obtain ⟨x, e1, h⟩ := h1 e; exact ⟨x, e1, fun hf => by cases hf⟩
  · obtain ⟨x, e1, h⟩ := h2 e; exact ⟨x, e1, fun hf => by cases hf⟩
theorem flow_depR {ops : Array Oper} {i : Nat} {ds : List Nat} {a : Act} (hdep : ∀ j k, waitsFor ops i j = true → ds[j]? = some k → ∃ v, a.tmps[k]? = some v ∧ PRb B B' p f q vals b j v w) (j k : Nat) (h1 : waitsFor ops i j = true) (h2 : ds[j]? = some k) (hm : j ∉ [6, 7, 8, 10, 11]) : a.tmps[k]? = some (vals.getD j undef) := by
  obtain ⟨v, e, h, _⟩ := hdep j k h1 h2
  rw [e, h hm]
end
theorem cellN_new (w : World) (x : List Value) (t : TypeId) : ∀ j u, x[j]? = some u → (w.alloc (.cells x.toArray t)).cell? ((⟨w.heap.size, 0, none⟩ : Addr).add j) = some u := by
  intro j u h
  rw [addr_add0, Nat.zero_add]
  have := cell_of_heap (heap_alloc_new w (.cells x.toArray t)) j
  rw [this]; simpa using h
theorem infoSR : (Tryz.prog.info? 77).map (fun i => (i.zero, i.size, i.bytes)) = some (some (.agg #[.string ⟨#[]⟩, .int .i64 0, .slice none 0 0, .slice none 0 0]), 4, 72) := by kernel_rfl

set_option maxHeartbeats 8000000 in
set_option maxRecDepth 1000000 in
theorem uresolve_bad (a1 a2 : Option Addr) (n1 n2 k1 k2 : Nat) (p : PT) (w : World) (hp : PR w (.slice a1 n1 k1) (.slice a2 n2 k2) p) (hn : p.numP) (hN : p.nodes.length ≤ 1048576) (r : Int) (hr : p.right = r) (h0 : r ≠ 0) :
    Calls Tryz.prog 7 #[.agg #[.slice a1 n1 k1, .slice a2 n2 k2]] w fun e w' => e = .returned (.tuple #[.slice none 0 0, .int .i64 r]) ∧ Below w.heap.size w w' := by
  have HRr : Hid (p.rright = r) := (PT.rright_eq p hN).trans hr
  have HP := Lib.hid hp
  have HNum := Lib.hid hn
  have hne : (r != 0) = true := by simpa using h0
  have HB := hb_start w
  clear hp hn hN hr h0
  go_enter Tryz.func7, Tryz.ntmps7
  go_wp2_with (go_at_call 19; refine (rright_r _ (HP.out.stay (hb_alloc HB (.cells #[.slice a1 n1 k1, .slice a2 n2 k2] 25)).out) HNum.out _ HRr.out).mono ?_; rintro e w2 ⟨rfl, hb⟩; have HB2 : Hid (Below w.heap.size w w2) := hb_step (hb_alloc HB _) hb; clear hb)
  go_ret2
  exact ⟨rfl, HB2.out⟩


set_option maxHeartbeats 16000000 in
set_option maxRecDepth 1000000 in
theorem uresolve_ok (a1 a2 : Option Addr) (n1 n2 k1 k2 : Nat) (p : PT) (w : World) (hp : PR w (.slice a1 n1 k1) (.slice a2 n2 k2) p) (hn : p.numP) (hN : p.nodes.length ≤ 1048576) (h0 : p.right = 0) (r : Int) (hr : p.resolve = r) :
    Calls Tryz.prog 7 #[.agg #[.slice a1 n1 k1, .slice a2 n2 k2]] w fun e w' => ∃ v, e = .returned (.tuple #[v, .int .i64 r]) ∧ Below w.heap.size w w' ∧ (r = 0 → CSl w' v p.scopes) := by
  obtain ⟨hl33, hok⟩ := PT.all_ok h0 hN
  obtain ⟨b, off, ff, gg, hfr⟩ := hp.1.rw9
  have HRr : Hid (p.rright = 0) := (PT.rright_eq p hN).trans h0
  have HP := Lib.hid hp
  have HNum := Lib.hid hn
  have HR := Lib.hid hr
  have H0 := Lib.hid h0
  have HOK := Lib.hid hok
  have HFR := Lib.hid hfr
  have hn32 : n1 ≤ 32 := by have := hfr.len; unfold PT.all at hl33; simp at hl33; omega
  have HLL : Hid (p.funcs.length = n1 ∧ p.all.length = n1 + 1) := ⟨hfr.len.symm, by have := hfr.len; unfold PT.all; simp; omega⟩
  obtain ⟨iS, hiS, hS0, hS1, hS2⟩ := info_parts infoSR
  clear hp hn hN h0 hr hok hfr hl33
  have HB := hb_start w
  have HXA : Hid ((w.alloc (.cells #[.slice a1 n1 k1, .slice a2 n2 k2] 25)).heap[w.heap.size]? = some (.cells #[.slice a1 n1 k1, .slice a2 n2 k2] 25 (0, 0))) := heap_alloc_new _ _
  go_enter Tryz.func7, Tryz.ntmps7
  go_wp2_with (go_at_call 19; refine (rright_r _ (HP.out.stay (hb_alloc HB (.cells #[.slice a1 n1 k1, .slice a2 n2 k2] 25)).out) HNum.out _ HRr.out).mono ?_; rintro e w2 ⟨rfl, hb⟩; have HB2 : Hid (Below w.heap.size w w2) := hb_step (hb_alloc HB _) hb; have HX2 := Lib.hid ((hb.block w.heap.size (lt_of_heap HXA.out)).trans HXA.out); clear hb HXA)
  go_loopw [5] (fun i wr => ∃ k : Nat, i = .int .i64 k ∧ k ≤ n1 ∧ Hid (Below w2.heap.size w2 wr) ∧ Hid (∀ j, j < k → paramOf (p.funcs.take j) (p.funcs.getD j default).name = none)) (fun i _ => n1 - (intOf i).toNat)
  case atStart => exact ⟨0, rfl, Nat.zero_le _, Below.refl _ _, fun j hj => absurd hj (by omega)⟩
  case round =>
    obtain ⟨k, rfl, hk, HBk, HNK⟩ := hrel
    have HXk := Lib.hid ((HBk.out.block _ (lt_of_heap HX2.out)).trans HX2.out)
    have HWk : Hid (Below w.heap.size w wr) := HB2.out.trans (HBk.out.mono HB2.out.size)
    have c0 : wr.cell? ⟨w.heap.size, 0, none⟩ = some (.slice a1 n1 k1) := cell_of_heap HXk.out 0
    by_cases hlt : k < n1
    · obtain ⟨wo, rfl⟩ : ∃ z, z = wr := ⟨_, rfl⟩
      obtain rfl := HFR.out.at_ (by omega)
      have e0 := HFR.out.cell (k * 3) (by omega)
      rw [(fcellC_at p.funcs ff gg k).1] at e0
      replace e0 := (HWk.out.cell (p := ⟨b, off + k * 3, none⟩) (lt_of_cell e0)).trans e0
      obtain ⟨nm, hnm⟩ : ∃ x, (p.funcs.getD k default).name = x := ⟨_, rfl⟩
      rw [hnm] at e0
      have HNM := Lib.hid hnm
      have HE0 := Lib.hid e0
      have hkI : (k : Int) < n1 := by omega
      clear hnm e0
      go_wp2_with fail
      go_loopw [6] (fun i wr => ∃ m : Nat, i = .int .i64 m ∧ m ≤ k ∧ Hid (Below wo.heap.size wo wr) ∧ Hid (∀ j, j < m → (nm.toList == (p.funcs.getD j default).name.toList) = false)) (fun i _ => k - (intOf i).toNat)
      case atStart => exact ⟨0, rfl, Nat.zero_le _, Below.refl _ _, fun j hj => absurd hj (by omega)⟩
      case round =>
        clear c0
        obtain ⟨m, rfl, hm, HBm, HNO⟩ := hrel
        have HXm := Lib.hid ((HBm.out.block _ (lt_of_heap HXk.out)).trans HXk.out)
        have HWm : Hid (Below w.heap.size w wr) := HWk.out.trans (HBm.out.mono HWk.out.size)
        have c0 : wr.cell? ⟨w.heap.size, 0, none⟩ = some (.slice (some ⟨b, off, none⟩) n1 k1) := cell_of_heap HXm.out 0
        have e0 := (HBm.out.cell (p := ⟨b, off + k * 3, none⟩) (lt_of_cell HE0.out)).trans HE0.out
        by_cases hmt : m < k
        · have e1 := HFR.out.cell (m * 3) (by omega)
          rw [(fcellC_at p.funcs ff gg m).1] at e1
          replace e1 := (HWm.out.cell (p := ⟨b, off + m * 3, none⟩) (lt_of_cell e1)).trans e1
          obtain ⟨nm2, hnm2⟩ : ∃ x, (p.funcs.getD m default).name = x := ⟨_, rfl⟩
          rw [hnm2] at e1
          have HNM2 := Lib.hid hnm2
          have hmI : (m : Int) < k := by omega
          have hmn : m < n1 := by omega
          obtain ⟨t, ht⟩ : ∃ t, (nm.toList == nm2.toList) = t := ⟨_, rfl⟩
          have HT := Lib.hid ht
          clear hnm2
          cases t with
          | true =>
            obtain rfl : r = 4 := by
              rw [← HR.out]
              unfold PT.resolve
              rw [if_pos H0.out, if_pos (dup_true (k := k) (by rw [HLL.out.1]; exact hlt) ?_)]
              have hk' : m < (p.funcs.take k).length := by rw [List.length_take, HLL.out.1]; omega
              have hg : ∀ j, j < k → (p.funcs.take k).getD j default = p.funcs.getD j default := fun j hj => by
                rw [List.getD_eq_getElem?_getD, List.getElem?_take, if_pos hj, List.getD_eq_getElem?_getD]
              rw [HNM.out, find_at hk' (fun j hj => by rw [hg j (by omega)]; exact HNO.out j hj) (by rw [hg m hmt, HNM2.out]; exact HT.out)]
              rfl
            go_wp2_with fail
            go_quiet (fail)
            go_wp2_with fail
            go_ret2
            exact ⟨_, rfl, below_drewN HWm.out _, fun h => absurd h (by decide)⟩
          | false =>
            go_wp2_with fail
            go_quiet (fail)
            go_wp2_with fail
            go_roundw
            case rel =>
              refine ⟨m + 1, by go_num, by omega, below_drewN HBm.out _, fun j hj => ?_⟩
              rcases Nat.lt_or_ge j m with h | h
              · exact HNO.out j h
              · obtain rfl : j = m := by omega
                rw [HNM2.out]; exact HT.out
            case measure => simp [intOf]; omega
        · obtain rfl : m = k := by omega
          have hnone : Hid (∀ j, j < m + 1 → paramOf (p.funcs.take j) (p.funcs.getD j default).name = none) := fun j hj => by
            rcases Nat.lt_or_ge j m with h | h
            · exact HNK.out j h
            · obtain rfl : j = m := by omega
              rw [HNM.out]
              refine find_none9 (fun i hi => ?_)
              rw [List.length_take] at hi
              have hg : (p.funcs.take j).getD i default = p.funcs.getD i default := by
                rw [List.getD_eq_getElem?_getD, List.getElem?_take, if_pos (by omega), List.getD_eq_getElem?_getD]
              rw [hg]; exact HNO.out i (by omega)
          go_wp2_with fail
          go_roundw
          case rel => exact ⟨m + 1, by go_num, by omega, HBk.out.trans (HBm.out.mono HBk.out.size), hnone⟩
          case measure => simp [intOf]; omega
    · obtain rfl : n1 = k := by omega
      have HDF : Hid (dupB p.funcs = false) := dup_false (fun j hj => HNK.out j (by rw [← HLL.out.1]; exact hj))
      have c1 : wr.cell? ⟨w.heap.size, 1, none⟩ = some (.slice a2 n2 k2) := cell_of_heap HXk.out 1
      clear HNK hlt hk
      obtain ⟨q0, hq0⟩ : ∃ q, (FT.found p.funcs ⟨⟨#[]⟩, [], p.main⟩).fits = q := ⟨_, rfl⟩
      have HQ0 := Lib.hid hq0
      have HF0 : Hid (p.all.getD 0 default = ⟨⟨#[]⟩, [], p.main⟩) := rfl
      have hu0 : (ST.usesL p.main).length ≤ 10000000 := by
        have h1 := PT.all_at (p := p) 0 (by rw [HLL.out.2]; omega) HOK.out
        have h2 := h1.nodes
        have h3 := ST.usesL_nodes p.main 0
        have h4 : (ST.nodesL p.main 0).length ≤ 1048576 := h2
        omega
      have HU0 := Lib.hid hu0
      clear hq0 hu0
      go_wp2_with (go_at_call 20; refine (uscope_f a1 a2 n1 n2 k1 k2 p ⟨⟨#[]⟩, [], p.main⟩ ⟨#[]⟩ (.slice none 0 0) (.slice a2 n2 k2) rfl hn32 (Nat.zero_le _) HU0.out _ (HP.out.stay HWk.out) (.mk none 0 0 0 [] (fun h => absurd h (by simp)) (Nat.le_refl _) (Nat.zero_le _) (fun i hi => absurd hi (by simp))) (HP.out.stay HWk.out).2 q0 HQ0.out).mono ?_; rintro e w3 ⟨x, rfl, hb, hx⟩; have HB3 : Hid (Below w.heap.size w w3) := HWk.out.trans (hb.mono HWk.out.size); have HX3 := Lib.hid ((hb.block _ (lt_of_heap HXk.out)).trans HXk.out); have hx' := ScV.lower hx HWk.out.size; obtain ⟨va, aa, vc, ac, vl, al, rfl, hv, ha, hva⟩ := hx'; have HV3 := Lib.hid hv; have HA3 := Lib.hid ha; have HVA := Lib.hid hva; clear hx hb hv ha hva)
      have HW5 : Hid (∀ o o' : Obj, ((w3.alloc o).alloc o').heap[w3.heap.size + 1]? = some o') := fun o o' => by
        have := heap_alloc_new (w3.alloc o) o'
        rwa [World.size_alloc] at this
      have HR5 : Hid (RRs w p p.all 1 q0 (.slice (some ⟨w3.heap.size + 1, 0, none⟩) 1 1) ((w3.alloc (.cells #[.string ⟨#[]⟩, .int .i64 0, .slice va vl.length vc, .slice aa al.length ac] 77)).alloc (.cells #[.string ⟨#[]⟩, .int .i64 0, .slice va vl.length vc, .slice aa al.length ac] 77))) := by
        refine ⟨(hb_alloc (hb_alloc HB3 _) _).out, ?_, fun _ => .slice va vl.length vc, fun _ => .slice aa al.length ac, fun _ => vl, fun _ => al, ?_, fun i hi => ?_⟩
        · show (((FT.found p.funcs ⟨⟨#[]⟩, [], p.main⟩).fits && true) = q0)
          rw [HQ0.out, Bool.and_true]
        · exact ⟨rfl, .inr ⟨_, 1, _, rfl, by have := HB3.out.size; omega, HW5.out _ _, Nat.le_refl _, by decide, rfl, rfl⟩⟩
        · obtain rfl : i = 0 := by omega
          exact ⟨World.ownsRow.alloc (World.ownsRow.alloc HV3.out _) _, World.ownsRow.alloc (World.ownsRow.alloc HA3.out _) _, HVA.out⟩
      have HX5 : Hid (((w3.alloc (.cells #[.string ⟨#[]⟩, .int .i64 0, .slice va vl.length vc, .slice aa al.length ac] 77)).alloc (.cells #[.string ⟨#[]⟩, .int .i64 0, .slice va vl.length vc, .slice aa al.length ac] 77)).heap[w.heap.size]? = some (.cells #[.slice a1 n1 k1, .slice a2 n2 k2] 25 (0, 0))) :=
        (Below.heap_alloc _ _ _ (by have := lt_of_heap HX3.out; rw [World.size_alloc]; omega)).trans ((Below.heap_alloc _ _ _ (lt_of_heap HX3.out)).trans HX3.out)
      generalize (w3.alloc (.cells #[.string ⟨#[]⟩, .int .i64 0, .slice va vl.length vc, .slice aa al.length ac] 77)).alloc (.cells #[.string ⟨#[]⟩, .int .i64 0, .slice va vl.length vc, .slice aa al.length ac] 77) = W5 at HR5 HX5 ⊢
      clear HW5 HV3 HA3 HVA HX3 HB3 HU0 HF0 HQ0 c0 c1 HXk HWk HBk HX2 HB2 HB
      go_loopw [8, 9, 10] (fun okv ov i wr => ∃ (j : Nat) (okb : Bool) (oa : Option Addr) (oc : Nat), okv = .bool okb ∧ ov = .slice oa (j + 1) oc ∧ i = .int .i64 j ∧ j ≤ n1 ∧ Hid (RRs w p p.all (j + 1) okb (.slice oa (j + 1) oc) wr) ∧ Hid (wr.heap[w.heap.size]? = some (.cells #[.slice a1 n1 k1, .slice a2 n2 k2] 25 (0, 0)))) (fun _ _ i _ => n1 - (intOf i).toNat)
      case atStart => exact ⟨0, q0, _, 1, rfl, rfl, rfl, Nat.zero_le _, HR5.out, HX5.out⟩
      case round =>
        clear HR5 HX5
        obtain ⟨j, okb, oa, oc, rfl, rfl, rfl, hj, HRR, HXj⟩ := hrel
        have HWj : Hid (Below w.heap.size w wr) := HRR.out.below
        have c0 : wr.cell? ⟨w.heap.size, 0, none⟩ = some (.slice a1 n1 k1) := cell_of_heap HXj.out 0
        by_cases hlt : j < n1
        · obtain rfl := HFR.out.at_ (by omega)
          obtain ⟨r0, r1, r2⟩ := fcellC_at p.funcs ff gg j
          have e0 := HFR.out.cell (j * 3) (by omega)
          have e1 := HFR.out.cell (j * 3 + 1) (by omega)
          have e2 := HFR.out.cell (j * 3 + 2) (by omega)
          rw [r0] at e0
          rw [r1, ← Nat.add_assoc] at e1
          rw [r2, ← Nat.add_assoc] at e2
          have ht := HFR.out.ts j hlt
          have hb := HFR.out.bs j hlt
          obtain ⟨pa, pc, hps, _, _⟩ := (HFR.out.ts j hlt).shape9
          obtain ⟨ba, bc, hbs⟩ := (HFR.out.bs j hlt).shape0'
          rw [hps] at e1 ht
          rw [hbs] at e2 hb
          have hz : b < w.heap.size := lt_of_cell e0
          replace e0 := (HWj.out.cell (p := ⟨b, off + j * 3, none⟩) hz).trans e0
          replace e1 := (HWj.out.cell (p := ⟨b, off + j * 3 + 1, none⟩) hz).trans e1
          replace e2 := (HWj.out.cell (p := ⟨b, off + j * 3 + 2, none⟩) hz).trans e2
          have hok := PT.all_at (p := p) (j + 1) (by rw [HLL.out.2]; omega) HOK.out
          have hfa : p.all.getD (j + 1) default = p.funcs.getD j default := p.all_succ j
          rw [hfa] at hok
          obtain ⟨f, hf⟩ : ∃ f, p.funcs.getD j default = f := ⟨_, rfl⟩
          rw [hf] at e0 e1 e2 ht hb hok hfa
          obtain ⟨q, hq⟩ : ∃ q, (FT.found p.funcs f).fits = q := ⟨_, rfl⟩
          have hu : (ST.usesL f.body).length ≤ 10000000 := by
            have h3 := ST.usesL_nodes f.body 0
            have h4 : (ST.nodesL f.body 0).length ≤ 1048576 := hok.nodes
            omega
          have HE0 := Lib.hid e0
          have HE1 := Lib.hid e1
          have HE2 := Lib.hid e2
          have HTS := Lib.hid ht
          have HBS := Lib.hid hb
          have HFA := Lib.hid hfa
          have HQ := Lib.hid hq
          have HU := Lib.hid hu
          have hpl8 : f.params.length ≤ 8 := hok.few
          have HLT := Lib.hid hlt
          have hjI : (j : Int) < n1 := by omega
          clear hps hbs ht hb hfa hf hq hu hok r0 r1 r2 hz e0 e1 e2
          go_upto_region 17 with fail
          clear c0
          refine region_flow4 rfl 12 rfl (by decide +kernel) [62, 63, 64, 65, 66, 67, 68, 61, 69, 70, 11, 72] 11 (by decide +kernel) (by rfl) rfl (by decide) (by simp) (by decide) [0, 1, 2, 3, 4, 5, 6, 7, 8, 10] (by decide +kernel) (fun _ w' => Below wr.heap.size wr w')
            (PRb w.heap.size wr.heap.size p f q [.agg #[.slice (some ⟨b, off, none⟩) n1 k1, .slice a2 n2 k2], .pointer (some ⟨w.heap.size, 0, none⟩), .slice (some ⟨b, off, none⟩) n1 k1, .int .i64 (j : Int), .pointer (some ⟨b, off + j * 3, none⟩), .agg #[.string f.name, .slice pa f.params.length pc, .slice ba f.body.length bc], undef, undef, undef, .bool q, undef, undef]) ?hr17 ?hs17 ?hw17 ?hl17
          case hr17 => exact (Below.refl _ _).drew
          case hs17 =>
            intro ix bq hix him hbE a wx hR hout hdep
            have hix' : ix = 0 ∨ ix = 1 ∨ ix = 2 ∨ ix = 3 ∨ ix = 4 ∨ ix = 5 ∨ ix = 6 ∨ ix = 7 ∨ ix = 8 ∨ ix = 9 ∨ ix = 10 := by omega
            rcases hix' with rfl | rfl | rfl | rfl | rfl | rfl | rfl | rfl | rfl | rfl | rfl
            · obtain rfl : bq = false := by
                cases bq
                · rfl
                · exact absurd (by decide) (hbE rfl)
              have HR := Lib.hid hR
              clear hR hbE him
              have e1 := hout 1 (by decide)
              have hX := (HR.out.block _ (lt_of_heap HXj.out)).trans HXj.out
              have z0 := cell_of_heap hX 0
              have z1 := cell_of_heap hX 1
              simp only [List.getElem?_toArray, List.getElem?_cons_succ, List.getElem?_cons_zero] at z0 z1
              clear hX
              clear hout hdep
              refine op_list (by rfl) ?_
              go_wp2
              exact withK_intro ⟨_, rfl, fun _ _ _ h => h, HR.out, PRb.known (by decide)⟩
            · obtain rfl : bq = false := by
                cases bq
                · rfl
                · exact absurd (by decide) (hbE rfl)
              have HR := Lib.hid hR
              clear hR hbE him
              have e1 := hout 1 (by decide)
              clear hout hdep
              refine op_list (by rfl) ?_
              go_wp2
              exact withK_intro ⟨_, rfl, fun _ _ _ h => h, HR.out, PRb.known (by decide)⟩
            · obtain rfl : bq = false := by
                cases bq
                · rfl
                · exact absurd (by decide) (hbE rfl)
              have HR := Lib.hid hR
              clear hR hbE him
              have e63 := flow_depR hdep 1 63 (by kernel_rfl) rfl (by decide)
              have hX := (HR.out.block _ (lt_of_heap HXj.out)).trans HXj.out
              have z0 := cell_of_heap hX 0
              simp only [List.getElem?_toArray, List.getElem?_cons_zero] at z0
              clear hX
              clear hout hdep
              refine op_list (by rfl) ?_
              go_wp2
              exact withK_intro ⟨_, rfl, fun _ _ _ h => h, HR.out, PRb.known (by decide)⟩
            · obtain rfl : bq = false := by
                cases bq
                · rfl
                · exact absurd (by decide) (hbE rfl)
              have HR := Lib.hid hR
              clear hR hbE him
              have e10 := hout 10 (by decide)
              clear hout hdep
              refine op_list (by rfl) ?_
              go_wp2
              exact withK_intro ⟨_, rfl, fun _ _ _ h => h, HR.out, PRb.known (by decide)⟩
            · obtain rfl : bq = false := by
                cases bq
                · rfl
                · exact absurd (by decide) (hbE rfl)
              have HR := Lib.hid hR
              clear hR hbE him
              have e64 := flow_depR hdep 2 64 (by kernel_rfl) rfl (by decide)
              have e65 := flow_depR hdep 3 65 (by kernel_rfl) rfl (by decide)
              clear hout hdep
              refine op_list (by rfl) ?_
              go_wp2
              exact withK_intro ⟨_, rfl, fun _ _ _ h => h, HR.out, PRb.known (by decide)⟩
            · obtain rfl : bq = false := by
                cases bq
                · rfl
                · exact absurd (by decide) (hbE rfl)
              have HR := Lib.hid hR
              clear hR hbE him
              have e66 := flow_depR hdep 4 66 (by kernel_rfl) rfl (by decide)
              have z0 := (HR.out.cell (p := ⟨b, off + j * 3, none⟩) (lt_of_cell HE0.out)).trans HE0.out
              have z1 := (HR.out.cell (p := ⟨b, off + j * 3 + 1, none⟩) (lt_of_cell HE1.out)).trans HE1.out
              have z2 := (HR.out.cell (p := ⟨b, off + j * 3 + 2, none⟩) (lt_of_cell HE2.out)).trans HE2.out
              clear hout hdep
              refine op_list (by rfl) ?_
              go_wp2
              exact withK_intro ⟨_, rfl, fun _ _ _ h => h, HR.out, PRb.known (by decide)⟩
            · obtain rfl : bq = false := by
                cases bq
                · rfl
                · exact absurd (by decide) (hbE rfl)
              have HR := Lib.hid hR
              clear hR hbE him
              have e62 := flow_depR hdep 0 62 (by kernel_rfl) rfl (by decide)
              have e67 := flow_depR hdep 5 67 (by kernel_rfl) rfl (by decide)
              have HBW : Hid (Below w.heap.size w wx) := HWj.out.trans (HR.out.mono HWj.out.size)
              clear hout hdep
              refine op_list (by rfl) ?_
              go_wp2_with (go_at_call 20; refine (uscope_f (some ⟨b, off, none⟩) a2 n1 n2 k1 k2 p f f.name (.slice pa f.params.length pc) (.slice ba f.body.length bc) rfl hn32 hpl8 HU.out _ (HP.out.stay HBW.out) (HTS.out.stay HBW.out) (HBS.out.stay HBW.out) q HQ.out).mono ?_; rintro e w2 ⟨x, rfl, hb, hx⟩; have HBC := Lib.hid hb; have HXC := Lib.hid (ScV.lower hx HBW.out.size); clear hb hx)
              exact withK_intro ⟨_, rfl, fun jx v hjx h => h.stay HBC.out, HR.out.trans (HBC.out.mono HR.out.size), PRb.six HXC.out⟩
            · obtain rfl : bq = false := by
                cases bq
                · rfl
                · exact absurd (by decide) (hbE rfl)
              have HR := Lib.hid hR
              clear hR hbE him
              obtain ⟨v68, e68, hφ⟩ := hdep 6 68 (by kernel_rfl) rfl
              obtain ⟨x, rfl, hx⟩ := hφ.2.1 rfl
              have HX := Lib.hid (hx rfl)
              clear hφ hx
              clear hout hdep
              refine op_list (by rfl) ?_
              go_wp2
              exact withK_intro ⟨_, rfl, fun _ _ _ h => h, HR.out, PRb.seven HX.out⟩
            · obtain rfl : bq = false := by
                cases bq
                · rfl
                · exact absurd (by decide) (hbE rfl)
              have HR := Lib.hid hR
              clear hR hbE him
              obtain ⟨v61, e61, hφ⟩ := hdep 7 61 (by kernel_rfl) rfl
              obtain ⟨x, rfl, hx⟩ := hφ.2.2.1 rfl
              have HX := Lib.hid (hx rfl)
              clear hφ hx
              clear hout hdep
              refine op_list (by rfl) ?_
              go_wp2
              exact withK_intro ⟨_, rfl, fun _ _ _ h => h, HR.out, PRb.eight HX.out⟩
            · skip
              have HR := Lib.hid hR
              clear hR hbE him
              obtain ⟨v61, e61, hφ⟩ := hdep 7 61 (by kernel_rfl) rfl
              obtain ⟨x, rfl, -⟩ := hφ.2.2.1 rfl
              clear hφ
              clear hout hdep
              refine op_list (by rfl) ?_
              go_wp2
              exact withK_intro ⟨_, rfl, fun _ _ _ h => h, HR.out, PRb.known (by decide)⟩
            · obtain rfl : bq = false := by
                cases bq
                · rfl
                · exact absurd (by decide) (hbE rfl)
              have HR := Lib.hid hR
              clear hR hbE him
              clear hout hdep
              refine op_list (by rfl) ?_
              go_wp2
              exact withK_intro ⟨_, rfl, fun jx v hjx h => h.stay ((Below.refl _ _).alloc (Nat.le_refl _) _), HR.out.alloc HR.out.size _, PRb.ten HR.out.size (heap_alloc_new _ _)⟩
          case hw17 =>
            intro a wx hR hout hdep
            have HR := Lib.hid hR
            clear hR hout
            obtain ⟨v11, e11, hφ11⟩ := hdep 10 11 (by kernel_rfl) rfl
            obtain ⟨g, rfl, hg1, hg2, -⟩ := hφ11.2.2.2.2 rfl
            obtain ⟨v69, e69, hφ69⟩ := hdep 8 69 (by kernel_rfl) rfl
            obtain ⟨va, aa, vc, ac, vl, al, rfl, hv, ha, hva⟩ := hφ69.2.2.2.1 rfl rfl
            have hz := hg2 rfl
            have hg10 : a.tmps.getD ([62, 63, 64, 65, 66, 67, 68, 61, 69, 70, 11, 72].getD 10 0) undef = .pointer (some ⟨g, 0, none⟩) := by
              show a.tmps.getD 11 undef = _
              simp [Array.getD_eq_getD_getElem?, e11]
            have hset : ScB w.heap.size p f g (wx.setRow g #[.string f.name, .int .i64 f.params.length, .slice va vl.length vc, .slice aa al.length ac]) :=
              ⟨va, aa, vc, ac, vl, al, setRow_heap _ _ _ _ _ _ hz, own_setRow9 hv hz, own_setRow9 ha hz, hva⟩
            refine op_list (by rfl) ?_
            refine wpList_store_row rfl 77 (.tmp 11) (.tmp 69) rfl g #[.string f.name, .int .i64 f.params.length, .slice va vl.length vc, .slice aa al.length ac] (by simp [Act.eval, Array.getD_eq_getD_getElem?, e11]) (by simp [Act.eval, Array.getD_eq_getD_getElem?, e69]) 77 _ hz (by kernel_rfl) rfl (by kernel_rfl) ?_
            have HSET := Lib.hid hset
            have HG1 := Lib.hid hg1
            have HG10 := Lib.hid hg10
            clear hv ha hva hz hset hg1 hg2 hφ11 hφ69 hdep e11 e69 hg10
            go_wp2
            refine withK_intro ⟨rfl, fun jx hjx hne h => ?_, below_setRow HR.out HG1.out _, fun v => PRb.eleven⟩
            by_cases e : jx = 10
            · subst e
              rw [HG10.out]
              exact PRb.ten2 HG1.out HSET.out
            · exact h.turn e
          case hl17 =>
            intro vs wx hR hφ
            have HR := Lib.hid hR
            clear hR
            obtain ⟨g, hv10, hg1, -, hgb⟩ := (hφ 10 (by omega)).2.2.2.2 rfl
            obtain ⟨va, aa, vc, ac, vl, al, hgc, hv, ha, hva⟩ := hgb rfl
            rw [fill_congr _ [62, 63, 64, 65, 66, 67, 68, 61, 69, 70, 11, 72] vs (fun jx => ([.agg #[.slice (some ⟨b, off, none⟩) n1 k1, .slice a2 n2 k2], .pointer (some ⟨w.heap.size, 0, none⟩), .slice (some ⟨b, off, none⟩) n1 k1, .int .i64 (j : Int), .pointer (some ⟨b, off + j * 3, none⟩), .agg #[.string f.name, .slice pa f.params.length pc, .slice ba f.body.length bc], vs 6, vs 7, vs 8, .bool q, .pointer (some ⟨g, 0, none⟩), vs 11] : List Value).getD jx undef) (fun jx hj => by
              have hj' : jx = 0 ∨ jx = 1 ∨ jx = 2 ∨ jx = 3 ∨ jx = 4 ∨ jx = 5 ∨ jx = 6 ∨ jx = 7 ∨ jx = 8 ∨ jx = 9 ∨ jx = 10 ∨ jx = 11 := by simp at hj; omega
              rcases hj' with rfl | rfl | rfl | rfl | rfl | rfl | rfl | rfl | rfl | rfl | rfl | rfl
              · exact (hφ 0 (by omega)).1 (by decide)
              · exact (hφ 1 (by omega)).1 (by decide)
              · exact (hφ 2 (by omega)).1 (by decide)
              · exact (hφ 3 (by omega)).1 (by decide)
              · exact (hφ 4 (by omega)).1 (by decide)
              · exact (hφ 5 (by omega)).1 (by decide)
              · rfl
              · rfl
              · rfl
              · exact (hφ 9 (by omega)).1 (by decide)
              · exact hv10
              · rfl)]
            have HGC := Lib.hid hgc
            have HVx := Lib.hid hv
            have HAx := Lib.hid ha
            have HVAx := Lib.hid hva
            obtain ⟨xs, hxs⟩ := HRR.out.row
            have HOX := Lib.hid (own_hold9 hxs HR.out)
            have HBX : Hid (Below w.heap.size w wx) := HWj.out.trans (HR.out.mono HWj.out.size)
            have HXx := Lib.hid ((HR.out.block _ (lt_of_heap HXj.out)).trans HXj.out)
            have y0 := cell_of_heap HGC.out 0
            have y1 := cell_of_heap HGC.out 1
            have y2 := cell_of_heap HGC.out 2
            have y3 := cell_of_heap HGC.out 3
            simp only [List.getElem?_toArray, List.getElem?_cons_succ, List.getElem?_cons_zero] at y0 y1 y2 y3
            have HOF := Lib.hid (World.ownsRow.alloc HOX.out (.cells #[.string f.name, .int .i64 f.params.length, .slice va vl.length vc, .slice aa al.length ac] 77))
            have HBF : Hid (Below w.heap.size w (wx.alloc (.cells #[.string f.name, .int .i64 f.params.length, .slice va vl.length vc, .slice aa al.length ac] 77))) := hb_alloc HBX _
            have HBR : Hid (Below wr.heap.size wr (wx.alloc (.cells #[.string f.name, .int .i64 f.params.length, .slice va vl.length vc, .slice aa al.length ac] 77))) := HR.out.alloc HR.out.size _
            have HXF : Hid ((wx.alloc (.cells #[.string f.name, .int .i64 f.params.length, .slice va vl.length vc, .slice aa al.length ac] 77)).heap[w.heap.size]? = some (.cells #[.slice (some ⟨b, off, none⟩) n1 k1, .slice a2 n2 k2] 25 (0, 0))) := (Below.heap_alloc _ _ _ (lt_of_heap HXx.out)).trans HXx.out
            have HVF : Hid (OwnS w.heap.size (wx.alloc (.cells #[.string f.name, .int .i64 f.params.length, .slice va vl.length vc, .slice aa al.length ac] 77)) (.slice va vl.length vc) vl) := World.ownsRow.alloc HVx.out _
            have HAF : Hid (OwnS w.heap.size (wx.alloc (.cells #[.string f.name, .int .i64 f.params.length, .slice va vl.length vc, .slice aa al.length ac] 77)) (.slice aa al.length ac) al) := World.ownsRow.alloc HAx.out _
            have HCF := Lib.hid (cellN_new wx [.string f.name, .int .i64 f.params.length, .slice va vl.length vc, .slice aa al.length ac] 77)
            clear hφ hv10 hg1 hgb hgc hv ha hva hxs
            refine op_list (by rfl) ?_
            simp only [fill, fillA, List.getD_cons_zero, List.getD_cons_succ, Nat.reduceAdd, List.setIfInBounds_toArray, List.set_cons_succ, List.set_cons_zero]
            go_wp2
            refine withK_intro ?_
            cases okb
            all_goals
              go_wp2_with (at_builtin; refine wpList_append_own _ rfl _ _ 34 rfl w.heap.size 77 iS (.agg #[.string ⟨#[]⟩, .int .i64 0, .slice none 0 0, .slice none 0 0]) 4 72 Tryz.underlying34 hiS hS0 hS1 hS2 rfl (by decide) _ _ _ rfl HOF.out ⟨wx.heap.size, 0, none⟩ 1 1 [.string f.name, .int .i64 f.params.length, .slice va vl.length vc, .slice aa al.length ac] rfl rfl HCF.out (by simp [Value.oneCell']) (by unfold maxLen; omega) (by omega) HBF.out.size ?_; intro v' w5 hown' hgrow _; obtain ⟨g', cap', rfl⟩ := ownsRow_succ' hown'; have HOW := Lib.hid hown'; have HGR := Lib.hid hgrow; clear hown' hgrow)
              have HRN := Lib.hid (RRs.next HRR.out HBR.out (by rw [HLL.out.2]; have := HLT.out; omega) HFA.out HVF.out HAF.out HQ.out HVAx.out HGR.out ⟨xs, HOF.out, HOW.out⟩)
              have HXN := Lib.hid ((HGR.out.block _ (lt_of_heap HXF.out) (own_ne_box HOF.out HXF.out (by decide))).trans HXF.out)
              go_roundw
              case rel => exact ⟨j + 1, _, _, _, rfl, rfl, by go_num, by omega, HRN.out, HXN.out⟩
              case measure => simp [intOf]; omega
        · obtain rfl : n1 = j := by omega
          have hlen : p.all.length = n1 + 1 := HLL.out.2
          have hall := HRR.out.all
          rw [List.take_of_length_le (by omega)] at hall
          have hany : p.all.any (fun f => !(f.found p.funcs).fits) = !okb := by rw [← List.not_all_eq_any_not, hall]
          have HANY := Lib.hid hany
          have HLEN := Lib.hid hlen
          clear hlen hall hany
          cases okb with
          | false =>
            obtain rfl : r = 4 := by
              rw [← HR.out]
              unfold PT.resolve
              rw [if_pos H0.out, HDF.out, if_neg (by decide), HANY.out]; rfl
            go_wp2_with fail
            go_ret2
            exact ⟨_, rfl, HWj.out, fun h => absurd h (by decide)⟩
          | true =>
            have hcs := HRR.out
            rw [← HLEN.out] at hcs
            have hcs := hcs.csl
            rw [HLEN.out] at hcs
            have HCS : Hid (CSl wr (.slice oa (n1 + 1) oc) p.scopes) := hcs
            clear hcs hlt hj
            obtain ⟨wo, rfl⟩ : ∃ z, z = wr := ⟨_, rfl⟩
            go_wp2_with fail
            go_loopw [13] (fun i wr => ∃ m : Nat, i = .int .i64 m ∧ m ≤ n1 + 1 ∧ Hid (Below wo.heap.size wo wr) ∧ Hid (∀ i, i < m → ((p.all.getD i default).found p.funcs).full = false)) (fun i _ => n1 + 1 - (intOf i).toNat)
            case atStart => exact ⟨0, rfl, Nat.zero_le _, Below.refl _ _, fun i hi => absurd hi (by omega)⟩
            case round =>
              obtain ⟨m, rfl, hm, HBm, HFU⟩ := hrel
              by_cases hmt : m < n1 + 1
              · obtain ⟨sb, so, va, vc, aa, ac, rfl, ⟨_, _, t2, t3⟩, _, _⟩ := (HCS.out.stay HBm.out).at9 m hmt
                have hma : m < p.all.length := by rw [HLEN.out]; exact hmt
                rw [p.scope_at hma] at t2 t3
                have hfu : ((p.all.getD m default).found p.funcs).full = (decide (64 < ((p.all.getD m default).found p.funcs).vars.length) || decide (64 < ((p.all.getD m default).found p.funcs).arrays.length)) := rfl
                change wr.cell? _ = some (.slice va ((p.all.getD m default).found p.funcs).vars.length vc) at t2
                change wr.cell? _ = some (.slice aa ((p.all.getD m default).found p.funcs).arrays.length ac) at t3
                have hno : ((p.all.getD m default).found p.funcs).full = true → r = 10 := fun h => by
                  rw [← HR.out]
                  unfold PT.resolve
                  rw [if_pos H0.out, HDF.out, if_neg (by decide), HANY.out, if_neg (by decide), if_pos (any_true default m hma h)]
                generalize ((p.all.getD m default).found p.funcs).vars.length = nv at t2 hfu
                generalize ((p.all.getD m default).found p.funcs).arrays.length = na at t3 hfu
                have hmI : (m : Int) < (n1 : Int) + 1 := by omega
                have HFUm := Lib.hid hfu
                have HNO := Lib.hid hno
                have hc : (r = 10 ∧ decide ((64 : Int) < nv) = true) ∨ (r = 10 ∧ decide ((64 : Int) < nv) = false ∧ decide ((64 : Int) < na) = true) ∨ (((p.all.getD m default).found p.funcs).full = false ∧ decide ((64 : Int) < nv) = false ∧ decide ((64 : Int) < na) = false) := by
                  by_cases h1 : 64 < nv
                  · exact .inl ⟨hno (by rw [hfu, decide_eq_true h1]; rfl), decide_eq_true (by omega)⟩
                  · by_cases h2 : 64 < na
                    · exact .inr (.inl ⟨hno (by rw [hfu, decide_eq_true h2, Bool.or_true]), decide_eq_false (by omega), decide_eq_true (by omega)⟩)
                    · exact .inr (.inr ⟨by rw [hfu, decide_eq_false h1, decide_eq_false h2]; rfl, decide_eq_false (by omega), decide_eq_false (by omega)⟩)
                clear hfu hno hma
                rcases hc with ⟨rfl, hd1⟩ | ⟨rfl, hd1, hd2⟩ | ⟨hd0, hd1, hd2⟩
                · go_wp2_with fail
                  go_ret2
                  exact ⟨⟨_, rfl⟩, HWj.out.trans (HBm.out.mono HWj.out.size)⟩
                · go_wp2_with fail
                  go_ret2
                  exact ⟨⟨_, rfl⟩, HWj.out.trans (HBm.out.mono HWj.out.size)⟩
                · have HD0 := Lib.hid hd0
                  clear hd0
                  go_wp2_with fail
                  go_roundw
                  case rel =>
                    refine ⟨m + 1, by go_num, by omega, HBm.out, fun i hi => ?_⟩
                    rcases Nat.lt_or_ge i m with h | h
                    · exact HFU.out i h
                    · obtain rfl : i = m := by omega
                      exact HD0.out
                  case measure => simp [intOf]; omega
              · obtain rfl : m = n1 + 1 := by omega
                obtain rfl : r = 0 := by
                  rw [← HR.out]
                  unfold PT.resolve
                  rw [if_pos H0.out, HDF.out, if_neg (by decide), HANY.out, if_neg (by decide), any_none default (fun i hi => HFU.out i (by rw [← HLEN.out]; exact hi)), if_neg (by decide)]
                go_wp2_with fail
                go_ret2
                exact ⟨_, rfl, HWj.out.trans (HBm.out.mono HWj.out.size), HCS.out.stay HBm.out⟩
end Go.Proofs.YthjjcmmonjajhaaGreatDoor
