/- Code in memory; a program's code, as a plain function; what Compile has come to. -/
import Derived.Test.YthjjcmmonjajhaaGreatDoorScopeRes
import Derived.Test.YthjjcmmonjajhaaGreatDoorFlows
namespace Go.Proofs.YthjjcmmonjajhaaGreatDoor
open Go.RowKit Go.Sort
set_option linter.unusedVariables false

/-- A function of code. -/
structure VF where
  name : ByteArray
  params : Int
  vars : Int
  arrays : Int
  l : List VI
instance : Inhabited VF := ⟨⟨ByteArray.empty, 0, 0, 0, []⟩⟩
/-- A slice of instructions in memory. -/
inductive ISl (w : World) : Value → List VI → Prop
  | mk (a : Option Addr) (b off cap : Nat) (l : List VI) : At a l.length b off → l.length ≤ cap → cap ≤ maxLen → l.length ≤ 17592186044416 →
      (∀ i, i < l.length → w.cell? ⟨b, off + i * 3, .none⟩ = .some (.int .i64 (l.getD i default).op) ∧ w.cell? ⟨b, off + i * 3 + 1, .none⟩ = .some (.int .i64 (l.getD i default).a) ∧ w.cell? ⟨b, off + i * 3 + 2, .none⟩ = .some (.int .i64 (l.getD i default).n)) → ISl w (.slice a l.length cap) l
theorem ISl.stay {w w' : World} (hb : Below w.heap.size w w') {v : Value} {l : List VI} (h : ISl w v l) : ISl w' v l := by
  cases h with
  | mk a b off cap l ha hc hm hs hcell =>
    exact .mk a b off cap l ha hc hm hs (fun i hi => by
      have hlt : b < w.heap.size := lt_of_cell (hcell i hi).1
      exact ⟨(hb.cell hlt).trans (hcell i hi).1, (hb.cell hlt).trans (hcell i hi).2.1, (hb.cell hlt).trans (hcell i hi).2.2⟩)
theorem ISl.small {w : World} {v : Value} {l : List VI} (h : ISl w v l) : l.length ≤ 17592186044416 := by cases h; assumption
theorem ISl.shape {w : World} {v : Value} {l : List VI} (h : ISl w v l) : ∃ a cap, v = .slice a l.length cap := by cases h; exact ⟨_, _, rfl⟩
/-- A slice of functions in memory. -/
inductive VSl (w : World) : Value → List VF → Prop
  | mk (a : Option Addr) (b off cap : Nat) (l : List VF) (f : Nat → Value) : At a l.length b off → l.length ≤ cap → cap ≤ maxLen →
      (∀ i, i < l.length → w.cell? ⟨b, off + i * 5, .none⟩ = .some (.string (l.getD i default).name) ∧ w.cell? ⟨b, off + i * 5 + 1, .none⟩ = .some (.int .i64 (l.getD i default).params) ∧ w.cell? ⟨b, off + i * 5 + 2, .none⟩ = .some (.int .i64 (l.getD i default).vars) ∧ w.cell? ⟨b, off + i * 5 + 3, .none⟩ = .some (.int .i64 (l.getD i default).arrays) ∧ w.cell? ⟨b, off + i * 5 + 4, .none⟩ = .some (f i)) →
      (∀ i, i < l.length → ISl w (f i) (l.getD i default).l) → VSl w (.slice a l.length cap) l
theorem VSl.stay {w w' : World} (hb : Below w.heap.size w w') {v : Value} {l : List VF} (h : VSl w v l) : VSl w' v l := by
  cases h with
  | mk a b off cap l f ha hc hm hcell h1 =>
    exact .mk a b off cap l f ha hc hm (fun i hi => by
      have hlt : b < w.heap.size := lt_of_cell (hcell i hi).1
      exact ⟨(hb.cell hlt).trans (hcell i hi).1, (hb.cell hlt).trans (hcell i hi).2.1, (hb.cell hlt).trans (hcell i hi).2.2.1, (hb.cell hlt).trans (hcell i hi).2.2.2.1, (hb.cell hlt).trans (hcell i hi).2.2.2.2⟩) (fun i hi => (h1 i hi).stay hb)
theorem VSl.shape {w : World} {v : Value} {l : List VF} (h : VSl w v l) : ∃ a cap, v = .slice a l.length cap := by cases h; exact ⟨_, _, rfl⟩
theorem VSl.nil (w : World) : VSl w (.slice none 0 0) [] := .mk none 0 0 0 [] (fun _ => .nilIface) (fun h => absurd h (by simp)) (Nat.le_refl _) (Nat.zero_le _) (fun i hi => absurd hi (by simp)) (fun i hi => absurd hi (by simp))
theorem isl_of {w : World} {b cap : Nat} {l : List VI} (hc : l.length ≤ cap) (hm : cap ≤ maxLen) (hs : l.length ≤ 17592186044416) (h : ∀ j, j < l.length * 3 → w.cell? ⟨b, j, none⟩ = (insR l)[j]?) : ISl w (.slice (some ⟨b, 0, none⟩) l.length cap) l := by
  refine .mk _ b 0 cap l (fun _ => rfl) hc hm hs (fun i hi => ?_)
  simp only [Nat.zero_add]
  exact ⟨(h (i * 3) (by omega)).trans (insR_at l i 0 hi (by omega)), (h (i * 3 + 1) (by omega)).trans (insR_at l i 1 hi (by omega)), (h (i * 3 + 2) (by omega)).trans (insR_at l i 2 hi (by omega))⟩
theorem ISl.nil (w : World) : ISl w (.slice none 0 0) [] := .mk none 0 0 0 [] (fun h => absurd h (by simp)) (Nat.le_refl _) (Nat.zero_le _) (Nat.zero_le _) (fun i hi => absurd hi (by simp))
theorem own_isl {w : World} {base : Nat} {e : TypeId} {v : Value} {l : List VI} (hs : l.length ≤ 17592186044416) (h : w.ownsRow base e 3 v l.length (insR l)) : ISl w v l := by
  have h' := h
  obtain ⟨hl, ⟨rfl, h0⟩ | ⟨g, cap, cur, rfl, _, hg, hn, hm, hc, ht⟩⟩ := h
  · obtain rfl : l = [] := List.eq_nil_of_length_eq_zero (by omega)
    exact ISl.nil w
  · exact isl_of (by omega) hm hs (fun j hj => own_cell h' j hj)

/-- What is compiled of a function, and of a program. -/
def FT.code (p : PT) (f : FT) : List VI := ST.codeL p.scopes (FT.sc p.funcs f) f.body 0 ++ [⟨1, 0, 0⟩] ++ [⟨18, 0, 0⟩]
def FT.vf (p : PT) (f : FT) : VF := ⟨f.name, f.params.length, (f.found p.funcs).vars.length, (f.found p.funcs).arrays.length, f.code p⟩
def PT.code (p : PT) : List VF := p.all.map (FT.vf p)
theorem FT.code_len (p : PT) {m : Nat} {f : FT} (h : f.ok m) : (ST.codeL p.scopes (FT.sc p.funcs f) f.body 0).length ≤ 2 * m := by
  have h1 := ST.codeL_len p.scopes (FT.sc p.funcs f) f.body 0 0
  have h2 := h.nodes
  omega

def fnC (l : List VF) (ls : Nat → Value) (i : Nat) : List Value := [.string (l.getD i default).name, .int .i64 (l.getD i default).params, .int .i64 (l.getD i default).vars, .int .i64 (l.getD i default).arrays, ls i]
def fnRows (l : List VF) (ls : Nat → Value) (k : Nat) : List Value := (List.range k).flatMap (fnC l ls)
/-- The first k functions, as far as Compile has come: c is the box at cb. -/
structure CS (w3 : World) (cb : Nat) (l : List VF) (k : Nat) (wr : World) : Prop where
  below : Below w3.heap.size w3 wr
  got : ∃ (lv : Value) (ls : Nat → Value), wr.heap[cb]? = some (.cells #[lv] 29 (0, 0)) ∧ wr.ownsRow w3.heap.size 41 5 lv k (fnRows l ls k) ∧ ∀ i, i < k → wr.ownsRow w3.heap.size 46 3 (ls i) (l.getD i default).l.length (insR (l.getD i default).l)
theorem CS.next {w3 wr wx w7 : World} {cb : Nat} {l : List VF} {k : Nat} {lv v' x : Value} {f : VF} (h : CS w3 cb l k wr) (hg3 : w3.heap.size ≤ cb) (hb : Below wr.heap.size wr wx) (hc : wx.heap[cb]? = some (.cells #[lv] 29 (0, 0))) (hf : l.getD k default = f)
    (hx : wx.ownsRow w3.heap.size 46 3 x f.l.length (insR f.l)) (hg : wx.grownBy w7 lv.ownBlock)
    (ho : ∃ xs, wx.ownsRow w3.heap.size 41 5 lv k xs ∧ w7.ownsRow w3.heap.size 41 5 v' (k + 1) (xs ++ [.string f.name, .int .i64 f.params, .int .i64 f.vars, .int .i64 f.arrays, x])) : CS w3 cb l (k + 1) (w7.setCell ⟨cb, 0, none⟩ v') := by
  obtain ⟨h1, lv0, ls, hcb, h2, h3⟩ := h
  obtain rfl : lv0 = lv := by
    have := (hb.block cb (lt_of_heap hcb)).trans hcb
    rw [hc] at this
    injection this with this
    injection this with this _ _
    injection this with this
    injection this with this
    exact this.symm
  obtain ⟨xs, o1, o2⟩ := ho
  have h2' := own_hold9 h2 hb
  rw [own_unique o1 h2'] at o2
  have hs3 : w3.heap.size ≤ wx.heap.size := Nat.le_trans h1.size hb.size
  have hcb7 : w7.heap[cb]? = some (.cells #[lv0] 29 (0, 0)) := (hg.block cb (lt_of_heap hc) (own_ne_box h2' hc (by decide))).trans hc
  have hb7 : Below w3.heap.size w3 w7 := (h1.trans (hb.mono h1.size)).grown hg hs3 (fun r e => own_ge h2' e)
  have keep : ∀ {e : TypeId} {size n : Nat} {v : Value} {ys : List Value}, w7.ownsRow w3.heap.size e size v n ys → 29 ≠ e → (w7.setCell ⟨cb, 0, none⟩ v').ownsRow w3.heap.size e size v n ys := fun hy he =>
    hy.kept (grown_set w7 cb 0 v') (.inr (fun e' => own_ne_box hy hcb7 he e'.symm))
  refine ⟨hb7.setCell (p := ⟨cb, 0, none⟩) hg3 _, v', fun i => if i = k then x else ls i, ?_, ?_, ?_⟩
  · have := heap_set hcb7 0 v'
    simpa using this
  · have e : fnRows l (fun i => if i = k then x else ls i) (k + 1) = fnRows l ls k ++ [.string f.name, .int .i64 f.params, .int .i64 f.vars, .int .i64 f.arrays, x] := by
      unfold fnRows
      rw [List.range_succ, List.flatMap_append, rows_congr _ (fnC l ls) k (fun i hi => by unfold fnC; dsimp only; rw [if_neg (by omega)])]
      simp [fnC]
      rw [← List.getD_eq_getElem?_getD, hf]
      exact ⟨rfl, rfl, rfl, rfl⟩
    rw [e]
    exact keep o2 (by decide)
  · intro i hi
    dsimp only
    by_cases e : i = k
    · subst e
      rw [if_pos rfl, hf]
      exact keep (own_other hx h2' (by decide) hg) (by decide)
    · rw [if_neg e]
      exact keep (own_other (own_hold9 (h3 i (by omega)) hb) h2' (by decide) hg) (by decide)
theorem CS.vsl {w3 wr : World} {cb : Nat} {l : List VF} (h : CS w3 cb l l.length wr) (hs : ∀ i, i < l.length → (l.getD i default).l.length ≤ 17592186044416) : ∃ a cap, wr.heap[cb]? = some (.cells #[.slice a l.length cap] 29 (0, 0)) ∧ VSl wr (.slice a l.length cap) l := by
  obtain ⟨_, lv, ls, hcb, h2, h3⟩ := h
  have h2' := h2
  obtain ⟨_, ⟨rfl, h0⟩ | ⟨q, cap', cur, rfl, _, hk, hn, hmx, hsz, ht⟩⟩ := h2
  · obtain rfl : l = [] := List.eq_nil_of_length_eq_zero h0
    exact ⟨none, 0, hcb, VSl.nil _⟩
  · refine ⟨_, _, hcb, VSl.mk (w := wr) (some ⟨q, 0, none⟩) q 0 cap' l ls (fun _ => rfl) hn hmx (fun i hi => ?_) (fun i hi => own_isl (hs i hi) (h3 i hi))⟩
    have hc : ∀ j, j < 5 → wr.cell? ⟨q, i * 5 + j, none⟩ = (fnC l ls i)[j]? := fun j hj => by
      rw [own_cell h2' _ (by omega)]
      exact rows_at 5 (fnC l ls) (fun _ => rfl) _ i j hi hj
    simp only [Nat.zero_add]
    exact ⟨hc 0 (by omega), hc 1 (by omega), hc 2 (by omega), hc 3 (by omega), hc 4 (by omega)⟩
theorem infoFn9 : (Tryz.prog.info? 41).map (fun i => (i.zero, i.size, i.bytes)) = some (some (.agg #[.string ⟨#[]⟩, .int .i64 0, .int .i64 0, .int .i64 0, .slice none 0 0]), 5, 64) := by kernel_rfl
theorem results_cell_tmp9 {P : Program} {fn : Func} {p u : Tmp} {ty : TypeId} (h : fn.results = #[.cell p ty, .tmp u]) (tmps : Array Value) (w : World) (g : Nat) (t : TypeId) (cs : Array Value) (fr : Nat × Nat) (d : TypeDesc)
    (hp : tmps.getD p undef = .pointer (some ⟨g, 0, none⟩)) (hg : w.heap[g]? = some (.cells cs t fr))
    (hu : P.underlying ty = some d) (hd : (match d with | .struct _ | .array _ _ => true | _ => false) = true) (hi : (P.info? ty).map (·.size) = some cs.size) :
    (results fn tmps).run P w = .ok (.tuple #[.agg cs, tmps.getD u undef]) w := by
  have hp' : tmps[p]?.getD undef = .pointer (some ⟨g, 0, none⟩) := by simpa using hp
  simp [results, h, hp', asAddr, Result.andThen, run_loadVar_row w g t ty cs fr d hg hu hd hi]
/-- A new writer. -/
theorem wr_new (W : World) (sc : SC) (vv av all : Value) : Wr W.heap.size (W.alloc (.cells #[.string sc.name, .int .i64 sc.params, vv, av, all, .slice none 0 0] 64)) W.heap.size sc vv av all [] :=
  ⟨Nat.le_refl _, _, heap_alloc_new _ _, World.ownsRow_nil _ _ _ _⟩
theorem CSl.at9 {w : World} {a : Option Addr} {n cap : Nat} {l : List SC} (h : CSl w (.slice a n cap) l) (k : Nat) (hk : k < n) : ∃ b off va vc aa ac, a = some ⟨b, off, none⟩ ∧
    (w.cell? ⟨b, off + k * 4, none⟩ = some (.string (l.getD k default).name) ∧ w.cell? ⟨b, off + k * 4 + 1, none⟩ = some (.int .i64 (l.getD k default).params) ∧ w.cell? ⟨b, off + k * 4 + 2, none⟩ = some (.slice va (l.getD k default).vars.length vc) ∧ w.cell? ⟨b, off + k * 4 + 3, none⟩ = some (.slice aa (l.getD k default).arrays.length ac)) ∧
    TSl w (.slice va (l.getD k default).vars.length vc) (l.getD k default).vars ∧ TSl w (.slice aa (l.getD k default).arrays.length ac) (l.getD k default).arrays := by
  generalize hv : Value.slice a n cap = v at h
  cases h with
  | mk a' b off cap' l' f g ha hc hm hcell h1 h2 =>
    cases hv
    obtain ⟨e0, e1, e2, e3⟩ := hcell k hk
    have t1 := h1 k hk
    have t2 := h2 k hk
    obtain ⟨va, vc, hv, _⟩ := t1.shape9
    obtain ⟨aa, ac, ha', _⟩ := t2.shape9
    rw [hv] at e2 t1
    rw [ha'] at e3 t2
    exact ⟨b, off, va, vc, aa, ac, ha (by omega), ⟨e0, e1, e2, e3⟩, t1, t2⟩
theorem CSl.len9 {w : World} {v : Value} {l : List SC} (h : CSl w v l) : ∃ a cap, v = .slice a l.length cap ∧ l.length ≤ cap ∧ cap ≤ 9223372036854775807 := by cases h with | mk a b off cap l f g ha hc hm _ _ _ => exact ⟨a, cap, rfl, hc, hm⟩

/-- Ahead of the operation that writes, the world has but grown. -/
def RB (W : World) (b : Bool) (w : World) : Prop := b = false → Below W.heap.size W w
theorem RB.intro {W w : World} {b : Bool} (h : Below W.heap.size W w) : RB W b w := fun _ => h
theorem RB.done {W w : World} : RB W true w := fun h => by cases h
/-- What is known of each operation's value, ahead of (false) and behind (true) the one that writes: s is the one that makes a row, m the one that writes. -/
def PhiB (s m : Nat) (PH PW : Value → World → Prop) (vals : List Value) (b : Bool) (j : Nat) (v : Value) (w : World) : Prop :=
  (j ≠ s → j ≠ m → v = vals.getD j undef) ∧ (j = s → b = false → PH v w) ∧ (j = m → b = true → PW v w)
theorem PhiB.known {s m : Nat} {PH PW : Value → World → Prop} {vals : List Value} {b : Bool} {j : Nat} {w : World} (h1 : j ≠ s) (h2 : j ≠ m) : PhiB s m PH PW vals b j (vals.getD j undef) w := ⟨fun _ _ => rfl, fun e => absurd e h1, fun e => absurd e h2⟩
theorem PhiB.made {s m : Nat} {PH PW : Value → World → Prop} {vals : List Value} {b : Bool} {v : Value} {w : World} (h : s ≠ m) (hp : PH v w) : PhiB s m PH PW vals b s v w := ⟨fun e => absurd rfl e, fun _ _ => hp, fun e => absurd e h⟩
theorem PhiB.wrote {s m : Nat} {PH PW : Value → World → Prop} {vals : List Value} {b : Bool} {v : Value} {w : World} (h : m ≠ s) (hp : PW v w) : PhiB s m PH PW vals b m v w := ⟨fun _ e => absurd rfl e, fun e => absurd e h, fun _ _ => hp⟩
theorem PhiB.stay {s m : Nat} {PH PW : Value → World → Prop} {vals : List Value} {j : Nat} {v : Value} {w w' : World} (h : PhiB s m PH PW vals false j v w) (hm : PH v w → PH v w') : PhiB s m PH PW vals false j v w' := ⟨h.1, fun e hb => hm (h.2.1 e hb), fun _ hb => by cases hb⟩
theorem PhiB.turn {s m : Nat} {PH PW : Value → World → Prop} {vals : List Value} {j : Nat} {v : Value} {w w' : World} (hj : j ≠ m) (h : PhiB s m PH PW vals false j v w) : PhiB s m PH PW vals true j v w' := ⟨h.1, (fun _ hb => by cases hb), fun e => absurd e hj⟩
theorem flow_depB {ops : Array Oper} {i s m : Nat} {PH PW : Value → World → Prop} {ds : List Nat} {a : Act} {w : World} {vals : List Value} {b : Bool} (hdep : ∀ j k, waitsFor ops i j = true → ds[j]? = some k → ∃ v, a.tmps[k]? = some v ∧ PhiB s m PH PW vals b j v w) (j k : Nat) (h1 : waitsFor ops i j = true) (h2 : ds[j]? = some k) (hs : j ≠ s) (hm : j ≠ m) :
    a.tmps[k]? = some (vals.getD j undef) := by
  obtain ⟨v, e, h, _⟩ := hdep j k h1 h2
  rw [e, h hs hm]
end Go.Proofs.YthjjcmmonjajhaaGreatDoor
