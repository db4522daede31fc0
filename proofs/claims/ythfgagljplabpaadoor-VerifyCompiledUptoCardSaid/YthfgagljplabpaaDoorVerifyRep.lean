/- Instructions and functions in memory; what verify computes, as plain functions. -/
import Derived.Test.YthfgagljplabpaaDoorVerifyDefs
namespace Go.Proofs.YthfgagljplabpaaDoor.V
open Go.RowKit Go.Sort
set_option linter.unusedVariables false

/-- An instruction. -/
structure VI where
  op : Int
  a : Int
  n : Int
  deriving DecidableEq
instance : Inhabited VI := ⟨⟨0, 0, 0⟩⟩
/-- A function of code. -/
structure VF where
  name : ByteArray
  params : Int
  vars : Int
  arrays : Int
  l : List VI
instance : Inhabited VF := ⟨⟨ByteArray.empty, 0, 0, 0, []⟩⟩

/-- Where a slice begins, as far as it has anything. -/
def At (a : Option Addr) (n : Nat) (b off : Nat) : Prop := 0 < n → a = some ⟨b, off, none⟩
/-- A slice of instructions in memory. -/
inductive ISl (w : World) : Value → List VI → Prop
  | mk (a : Option Addr) (b off cap : Nat) (l : List VI) : At a l.length b off → l.length ≤ cap → cap ≤ maxLen → l.length ≤ 17592186044416 →
      (∀ i, i < l.length → w.cell? ⟨b, off + i * 3, .none⟩ = .some (.int .i64 (l.getD i default).op) ∧ w.cell? ⟨b, off + i * 3 + 1, .none⟩ = .some (.int .i64 (l.getD i default).a) ∧ w.cell? ⟨b, off + i * 3 + 2, .none⟩ = .some (.int .i64 (l.getD i default).n)) → ISl w (.slice a l.length cap) l
theorem ISl.stay {w w' : World} (hb : Below w.heap.size w w') {v : Value} {l : List VI} (h : ISl w v l) : ISl w' v l := by
  cases h with
  | mk a b off cap l ha hc hm hs hcell =>
    exact .mk a b off cap l ha hc hm hs (fun i hi => by
      have hlt : b < w.heap.size := lt_of_cell (hcell i hi).1
      exact ⟨(hb.cell hlt).trans (hcell i hi).1, (hb.cell hlt).trans (hcell i hi).2.1, (hb.cell hlt).trans (hcell i hi).2.2⟩)
theorem ISl.small {w : World} {v : Value} {l : List VI} (h : ISl w v l) : l.length ≤ 17592186044416 := by cases h; assumption
theorem ISl.shape {w : World} {v : Value} {l : List VI} (h : ISl w v l) : ∃ a cap, v = .slice a l.length cap := by cases h; exact ⟨_, _, rfl⟩
/-- A slice of functions in memory. -/
inductive VSl (w : World) : Value → List VF → Prop
  | mk (a : Option Addr) (b off cap : Nat) (l : List VF) (f : Nat → Value) : At a l.length b off → l.length ≤ cap → cap ≤ maxLen →
      (∀ i, i < l.length → w.cell? ⟨b, off + i * 5, .none⟩ = .some (.string (l.getD i default).name) ∧ w.cell? ⟨b, off + i * 5 + 1, .none⟩ = .some (.int .i64 (l.getD i default).params) ∧ w.cell? ⟨b, off + i * 5 + 2, .none⟩ = .some (.int .i64 (l.getD i default).vars) ∧ w.cell? ⟨b, off + i * 5 + 3, .none⟩ = .some (.int .i64 (l.getD i default).arrays) ∧ w.cell? ⟨b, off + i * 5 + 4, .none⟩ = .some (f i)) →
      (∀ i, i < l.length → ISl w (f i) (l.getD i default).l) → VSl w (.slice a l.length cap) l
theorem VSl.stay {w w' : World} (hb : Below w.heap.size w w') {v : Value} {l : List VF} (h : VSl w v l) : VSl w' v l := by
  cases h with
  | mk a b off cap l f ha hc hm hcell h1 =>
    exact .mk a b off cap l f ha hc hm (fun i hi => by
      have hlt : b < w.heap.size := lt_of_cell (hcell i hi).1
      exact ⟨(hb.cell hlt).trans (hcell i hi).1, (hb.cell hlt).trans (hcell i hi).2.1, (hb.cell hlt).trans (hcell i hi).2.2.1, (hb.cell hlt).trans (hcell i hi).2.2.2.1, (hb.cell hlt).trans (hcell i hi).2.2.2.2⟩) (fun i hi => (h1 i hi).stay hb)
theorem VSl.shape {w : World} {v : Value} {l : List VF} (h : VSl w v l) : ∃ a cap, v = .slice a l.length cap := by cases h; exact ⟨_, _, rfl⟩

/-- Is a number from a least one to one below a greatest one? -/
def inB (n least fin : Int) : Bool := decide (least ≤ n) && decide (n < fin)
/-- Are an instruction's operands right? -/
def operandsB (nf : Nat) (f : VF) (i : VI) : Bool :=
  if i.op = 2 ∨ i.op = 3 then inB i.a 0 f.vars
  else if i.op = 21 then inB i.a 0 f.vars && (decide (i.n = 0) || decide (i.n = 1))
  else if i.op = 23 ∨ i.op = 24 then inB i.a 0 f.arrays
  else if i.op = 22 then inB i.a 0 f.arrays && (decide (1 ≤ i.n) && decide (i.n ≤ 4096))
  else if i.op = 17 then inB i.a 1 nf
  else decide (1 ≤ i.op ∧ i.op ≤ 25)
/-- What has been seen of a function's places: which depth each has, and which wait. -/
structure VS where
  dep : Nat → Option Int
  queue : List Nat
/-- A place is reached. -/
def VS.reach (n : Nat) (st : VS) (p d : Int) : Option VS :=
  if inB p 0 n then
    (match st.dep p.toNat with
    | some e => if e = d then some st else none
    | none => some ⟨fun k => if k = p.toNat then some d else st.dep k, st.queue ++ [p.toNat]⟩)
  else none
/-- What an instruction takes. -/
def takesV (fs : List VF) (i : VI) : Int := if i.op = 17 then (fs.getD i.a.toNat default).params else tk (ix i.op)
/-- How deep the stack is below what an instruction leaves. -/
def restV (fs : List VF) (i : VI) (d : Int) : Int := wrap64 (d - takesV fs i)
def placeB (fs : List VF) (f : VF) (st : VS) (k : Nat) : Option VS :=
  let i := f.l.getD k default
  if operandsB fs.length f i then
    (let d := restV fs i ((st.dep k).getD 0)
     if d < 0 then none else
     (let d := wrap64 (d + lv (ix i.op))
      if i.op = 18 then some st
      else if i.op = 15 then st.reach f.l.length i.a d
      else if i.op = 16 then (st.reach f.l.length i.a d).bind fun st => st.reach f.l.length (k + 1) d
      else st.reach f.l.length (k + 1) d))
  else none
def loopB (fs : List VF) (f : VF) : Nat → VS → Bool
  | 0, _ => true
  | n + 1, st =>
    match st.queue with
    | [] => true
    | k :: q => match placeB fs f ⟨st.dep, q⟩ k with
      | none => false
      | some st' => loopB fs f n st'
/-- Have a function's parameters, variables and arrays a right number? -/
def headV (f : VF) : Bool := inB f.params 0 9 && (decide (f.params ≤ f.vars) && (inB f.vars 0 65 && inB f.arrays 0 65))
def startV : VS := ⟨fun _ => none, []⟩
def rightV (fs : List VF) (f : VF) : Bool :=
  headV f && (match startV.reach f.l.length 0 0 with
    | none => false
    | some st => loopB fs f (2 * f.l.length + 1) st)
def codeV (fs : List VF) : Bool := inB fs.length 1 34 && (decide ((fs.getD 0 default).params = 0) && !fs.any fun f => !rightV fs f)

/-- How many places are not seen yet. -/
def unseen (dep : Nat → Option Int) (n : Nat) : Nat := (List.range n).countP fun k => (dep k).isNone
theorem unseen_le (dep : Nat → Option Int) (n : Nat) : unseen dep n ≤ n := by
  unfold unseen; exact Nat.le_trans List.countP_le_length (by simp)
theorem unseen_set (dep : Nat → Option Int) (n p : Nat) (d : Int) (hp : p < n) (h : dep p = none) : unseen (fun k => if k = p then some d else dep k) n + 1 = unseen dep n := by
  unfold unseen
  induction n with
  | zero => omega
  | succ n ih =>
    rw [List.range_succ, List.countP_append, List.countP_append]
    rcases Nat.lt_or_ge p n with hlt | hge
    · have := ih hlt
      simp only [List.countP_cons, List.countP_nil]
      rw [if_neg (show ¬ n = p by omega)]
      generalize List.countP (fun k => (if k = p then some d else dep k).isNone) (List.range n) = u at this ⊢
      generalize List.countP (fun k => (dep k).isNone) (List.range n) = v at this ⊢
      omega
    · obtain rfl : p = n := by omega
      have h1 : ∀ m, m ≤ p → List.countP (fun k => (if k = p then some d else dep k).isNone) (List.range m) = List.countP (fun k => (dep k).isNone) (List.range m) := by
        intro m hm
        refine List.countP_congr fun k hk => ?_
        have := List.mem_range.1 hk
        rw [if_neg (by omega)]
      rw [h1 p (Nat.le_refl _)]
      simp [h]
/-- All that waits fits into what was not seen. -/
def VS.ok (st : VS) (n : Nat) : Prop := st.queue.length + unseen st.dep n ≤ n ∧ ∀ k ∈ st.queue, k < n ∧ (st.dep k).isSome = true
def VS.mu (st : VS) (n : Nat) : Nat := 2 * unseen st.dep n + st.queue.length
theorem VS.reach_ok {n : Nat} {st st' : VS} {p d : Int} (h : st.reach n p d = some st') (ho : st.ok n) : st'.ok n ∧ st'.mu n ≤ st.mu n ∧ ∀ k, (st.dep k).isSome = true → st'.dep k = st.dep k := by
  unfold VS.reach at h
  split at h
  · rename_i hin
    unfold inB at hin
    simp only [Bool.and_eq_true, decide_eq_true_eq] at hin
    split at h
    · split at h
      · cases h; exact ⟨ho, Nat.le_refl _, fun _ _ => rfl⟩
      · cases h
    · rename_i hn
      cases h
      have hu := unseen_set st.dep n p.toNat d (by omega) hn
      obtain ⟨h1, h2⟩ := ho
      refine ⟨⟨by simp; omega, ?_⟩, by unfold VS.mu; simp; omega, ?_⟩
      · intro k hk
        rcases List.mem_append.1 hk with hk | hk
        · refine ⟨(h2 k hk).1, ?_⟩
          dsimp only
          split
          · rfl
          · exact (h2 k hk).2
        · obtain rfl : k = p.toNat := by simpa using hk
          exact ⟨by omega, by simp⟩
      · intro k hk
        dsimp only
        split
        · rename_i e; subst e; rw [hn] at hk; cases hk
        · rfl
  · cases h
end Go.Proofs.YthfgagljplabpaaDoor.V
