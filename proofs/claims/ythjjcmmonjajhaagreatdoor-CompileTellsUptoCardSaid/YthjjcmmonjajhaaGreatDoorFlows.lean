/- A region that draws its order, by an invariant: each operation is looked at once. A region that draws its order: each operation comes to a value that is known by what it waits for; what lies is kept. One goal a region. A region as in TreeFlow, the last two operations of which write: all others are done ahead of them. A region as in TreeFlow, one operation of which writes what others ahead of it read; the last one may write too. A region as in TreeFlow3, where the operation that writes stores (it has no slot), and some read of no effect may stand on either side of it. -/
import Derived.Test.YthjjcmmonjajhaaGreatDoorTrees
import Derived.Orders
import Derived.RegionTactic
namespace Go.Proofs.YthjjcmmonjajhaaGreatDoor
open Go.RowKit Go.Sort
set_option linter.unusedVariables false

section
variable {P : Program} {ops : Array Oper} {Q : Exit → Act → World → Prop}
/-- How many are not listed yet. -/
def left (l : Array Bool) : Nat := l.toList.countP (fun b => !b)
theorem left_next (l : Array Bool) (i : Nat) (h : l.getD i true = false) : left (l.setIfInBounds i true) + 1 = left l := by
  obtain ⟨l⟩ := l
  have hi : i < l.length := by
    rcases Nat.lt_or_ge i l.length with h' | h'
    · exact h'
    · simp [h'] at h
  have hv : l[i] = false := by simpa [hi] using h
  unfold left
  simp only [List.setIfInBounds_toArray]
  clear h
  induction l generalizing i with
  | nil => simp at hi
  | cons x l ih =>
    cases i with
    | zero =>
      simp at hv; subst hv
      simp
    | succ i =>
      have := ih i (by simpa using hi) (by simpa using hv)
      simp only [List.set_cons_succ, List.countP_cons]
      omega
theorem ready_nil (l : Array Bool) (hs : l.size = ops.size) (h : left l = 0) : Region.ready .any ops l = [] := by
  unfold Region.ready
  rw [List.filter_eq_nil_iff]
  intro i hi
  have hi' : i < l.size := by rw [hs]; simpa using hi
  have : l.getD i true = true := by
    unfold left at h
    rw [List.countP_eq_zero] at h
    have := h (l[i]) (by simp)
    simp [hi'] at this ⊢
    exact this
  simp [this]
theorem wpAny_inv (Inv : Array Bool → Act → World → Prop)
    (hstep : ∀ l a w, Inv l a w → ∀ i ∈ Region.ready .any ops l, wpOp P ops Q i (fun a' w' => Inv (l.setIfInBounds i true) a' w') a w)
    (hdone : ∀ l a w, Inv l a w → l.size = ops.size → Region.ready .any ops l = [] → Q .normal a w) :
    ∀ fuel l a w, l.size = ops.size → left l ≤ fuel → Inv l a w → wpAny P .any ops Q fuel l a w := by
  intro fuel
  induction fuel with
  | zero =>
    intro l a w hs hl h
    have hr := ready_nil (ops := ops) l hs (by omega)
    exact ⟨hr, hdone l a w h hs hr⟩
  | succ fuel ih =>
    intro l a w hs hl h
    refine ⟨fun hr => hdone l a w h hs hr, ?_⟩
    intro i hi
    have h1 := hstep l a w h i hi
    have hf : l.getD i true = false := by
      unfold Region.ready at hi
      rw [List.mem_filter] at hi
      have := hi.2
      simp only [Bool.and_eq_true, Bool.not_eq_true'] at this
      exact this.1
    have hle : left (l.setIfInBounds i true) ≤ fuel := by have := left_next l i hf; omega
    have hk : ∀ a w, Inv (l.setIfInBounds i true) a w → wpAny P .any ops Q fuel (l.setIfInBounds i true) a w := fun a w h => ih _ a w (by simp [hs]) hle h
    exact wpOp_mono hk h1
/-- Q, but K where all goes on. -/
def withK (K : Act → World → Prop) (Q : Exit → Act → World → Prop) : Exit → Act → World → Prop
  | .normal, a, w => K a w
  | .exit n, a, w => Q (.exit n) a w
  | .ret, a, w => Q .ret a w
  | e, a, w => Q e a w
theorem upon_withK {o : Oper} {a : Act} {K K' : Act → World → Prop} (r : Result Next) (h : o.upon P a K (withK K' Q) r) : o.upon P a K Q r := by
  cases r with
  | ok n w' =>
    cases n <;> simp only [Oper.upon] at h ⊢ <;>
      first
        | exact h
        | exact Calls.mono h (fun e w'' he => by cases e <;> first | exact he | (obtain ⟨a, w, h⟩ := he; exact ⟨a, w, h⟩))
  | halt x w' => cases x <;> simp only [Oper.upon] at h ⊢ <;> exact h
theorem op_list {i : Nat} {o : Oper} {K : Act → World → Prop} {a : Act} {w : World} (ho : ops[i]? = some o) (h : wpList P ops (withK K Q) [o] a w) : wpOp P ops Q i K a w := by
  unfold wpOp
  rw [ho]
  unfold wpList at h
  show if Region.wanted o (yielded ops a.tmps) = true then _ else _
  split at h
  · rename_i hw
    rw [if_pos hw]
    rcases h with h | ⟨h, a', w', h'⟩
    · exact .inl (upon_withK _ h)
    · exact .inr ⟨h, a', w', h'⟩
  · rename_i hw
    rw [if_neg hw]
    exact h
theorem ready_mem {l : Array Bool} {i : Nat} (h : i ∈ Region.ready .any ops l) : i < ops.size ∧ l.getD i true = false ∧ ∀ o, ops[i]? = some o → ∀ e ∈ o.after, Region.binds .any e = true → l.getD e.on false = true := by
  unfold Region.ready at h
  rw [List.mem_filter] at h
  obtain ⟨h1, h2⟩ := h
  simp only [Bool.and_eq_true, Bool.not_eq_true'] at h2
  refine ⟨by simpa using h1, h2.1, ?_⟩
  intro o ho e he hb
  have h3 := h2.2
  rw [ho] at h3
  simp only [Option.map_some, Option.getD_some, Array.all_eq_true'] at h3
  have := h3 e he
  rw [hb] at this
  simpa using this
theorem region_inv {id : Nat} {a : Act} {w : World} (hm : P.follows .mixedOrders = true) (Inv : Array Bool → Act → World → Prop)
    (h0 : Inv (Array.replicate ops.size false) a w.drew)
    (hstep : ∀ l a w, Inv l a w → ∀ i ∈ Region.ready .any ops l, wpOp P ops Q i (fun a' w' => Inv (l.setIfInBounds i true) a' w') a w)
    (hdone : ∀ l a w, Inv l a w → l.size = ops.size → Region.ready .any ops l = [] → Q .normal a w) : (Code.region id ops true).wp P Q a w := by
  refine wp_region_any hm (wpAny_inv Inv hstep hdone _ _ _ _ (by simp) ?_ h0)
  unfold left
  exact Nat.le_trans List.countP_le_length (by simp)
theorem ready_all {l : Array Bool} (hall : ((List.range ops.size).all fun i => ((ops[i]?).map fun o => o.after.all fun e => decide (e.on < i)).getD true) = true) (hs : l.size = ops.size) (hr : Region.ready .any ops l = []) : ∀ i, i < ops.size → l.getD i false = true := by
  have hdown : ∀ (i : Nat) (o : Oper), ops[i]? = some o → ∀ e ∈ o.after, e.on < i := by
    intro i o ho e he
    have hi : i < ops.size := (Array.getElem?_eq_some_iff.1 ho).1
    rw [List.all_eq_true] at hall
    have := hall i (by simpa using hi)
    rw [ho] at this
    simp only [Option.map_some, Option.getD_some, Array.all_eq_true', decide_eq_true_eq] at this
    exact this e he
  intro i
  induction i using Nat.strongRecOn with
  | _ i ih =>
    intro hi
    rcases hb : l.getD i false with _ | _
    · exfalso
      unfold Region.ready at hr
      rw [List.filter_eq_nil_iff] at hr
      apply hr i (by simpa using hi)
      have h1 : l.getD i true = false := by
        have : i < l.size := by omega
        simp [Array.getD, this] at hb ⊢
        exact hb
      rw [h1]
      have ho : ops[i]? = some ops[i] := Array.getElem?_eq_getElem hi
      rw [ho]
      simp only [Bool.not_false, Bool.true_and, Option.map_some, Option.getD_some, Array.all_eq_true']
      intro e he
      rw [ih e.on (hdown i _ ho e he) (by have := hdown i _ ho e he; omega)]
      simp
    · rfl
theorem region_inv_at {id : Nat} {a : Act} {w : World} (hm : P.follows .mixedOrders = true) (Inv : Act → Array Bool → Act → World → Prop)
    (h0 : Inv a (Array.replicate ops.size false) a w.drew)
    (hstep : ∀ l a' w, Inv a l a' w → ∀ i ∈ Region.ready .any ops l, wpOp P ops Q i (fun a'' w' => Inv a (l.setIfInBounds i true) a'' w') a' w)
    (hdone : ∀ l a' w, Inv a l a' w → l.size = ops.size → Region.ready .any ops l = [] → Q .normal a' w) : (Code.region id ops true).wp P Q a w :=
  region_inv hm (Inv a) h0 hstep hdone
end
end Go.Proofs.YthjjcmmonjajhaaGreatDoor
namespace Go.Proofs.YthjjcmmonjajhaaGreatDoor
open Go.RowKit Go.Sort
set_option linter.unusedVariables false

/-- Does operation i wait for operation j? -/
def waitsFor (ops : Array Oper) (i j : Nat) : Bool := ((ops[i]?).map fun o => o.after.any fun e => e.on == j && Region.binds .any e).getD false
/-- Edges point down; each operation but the last is waited for. -/
def flowB (ops : Array Oper) (n : Nat) : Bool :=
  ((List.range ops.size).all fun i => ((ops[i]?).map fun o => o.after.all fun e => decide (e.on < i)).getD true) && ((List.range n).all fun i => (List.range (n + 1)).any fun j => decide (i < j) && waitsFor ops j i)
def fillA (t : Array Value) : List Nat → (Nat → Value) → Nat → Array Value
  | [], _, _ => t
  | k :: ds, vs, i => fillA (t.setIfInBounds k (vs i)) ds vs (i + 1)
def fill (a : Act) (ds : List Nat) (vs : Nat → Value) : Act := { a with tmps := fillA a.tmps ds vs 0 }
theorem fillA_at (ds : List Nat) : ∀ (t : Array Value) (vs : Nat → Value) (i : Nat), ds.Nodup → (∀ k ∈ ds, k < t.size) →
    (fillA t ds vs i).size = t.size ∧ (∀ k, k ∉ ds → (fillA t ds vs i)[k]? = t[k]?) ∧ ∀ j k, ds[j]? = some k → (fillA t ds vs i)[k]? = some (vs (i + j)) := by
  induction ds with
  | nil => intro t vs i _ _; exact ⟨rfl, fun _ _ => rfl, fun j k h => by simp at h⟩
  | cons d ds ih =>
    intro t vs i hn hk
    obtain ⟨hd, hn'⟩ := List.nodup_cons.1 hn
    obtain ⟨h1, h2, h3⟩ := ih (t.setIfInBounds d (vs i)) vs (i + 1) hn' (fun k h => by rw [Array.size_setIfInBounds]; exact hk k (List.mem_cons_of_mem _ h))
    refine ⟨by show (fillA _ ds vs (i + 1)).size = _; rw [h1, Array.size_setIfInBounds], ?_, ?_⟩
    · intro k hk'
      have hne : d ≠ k := fun e => hk' (by rw [e]; exact List.mem_cons_self ..)
      show (fillA _ ds vs (i + 1))[k]? = _
      rw [h2 k (fun h => hk' (List.mem_cons_of_mem _ h)), Array.getElem?_setIfInBounds_ne hne]
    · intro j k hj
      show (fillA _ ds vs (i + 1))[k]? = _
      cases j with
      | zero =>
        obtain rfl : d = k := by simpa using hj
        rw [h2 d hd, Array.getElem?_setIfInBounds_self_of_lt (hk d (List.mem_cons_self ..))]; rfl
      | succ j =>
        rw [h3 j k (by simpa using hj)]
        congr 2; omega
theorem fill_eq (a a0 : Act) (ds : List Nat) (hn : ds.Nodup) (hk : ∀ k ∈ ds, k < a0.tmps.size) (hd : a.defers = a0.defers) (hs : a.tmps.size = a0.tmps.size) (ho : ∀ k, k ∉ ds → a.tmps[k]? = a0.tmps[k]?) :
    fill a0 ds (fun i => a.tmps.getD (ds.getD i 0) undef) = a := by
  obtain ⟨h1, h2, h3⟩ := fillA_at ds a0.tmps (fun i => a.tmps.getD (ds.getD i 0) undef) 0 hn hk
  have : fillA a0.tmps ds (fun i => a.tmps.getD (ds.getD i 0) undef) 0 = a.tmps := by
    apply Array.ext_getElem?
    intro k
    by_cases hkd : k ∈ ds
    · obtain ⟨j, hj⟩ := List.mem_iff_getElem?.1 hkd
      rw [h3 j k hj, Nat.zero_add]
      have hlt : k < a.tmps.size := by rw [hs]; exact hk k hkd
      have e : ds.getD j 0 = k := by rw [List.getD_eq_getElem?_getD, hj]; rfl
      rw [e]
      simp [Array.getD, hlt]
    · rw [h2 k hkd, ho k hkd]
  unfold fill
  rw [this, ← hd]

section
variable {P : Program} {ops : Array Oper} {Q : Exit → Act → World → Prop}
/-- What is known in the midst of the region. -/
structure FlowI (ops : Array Oper) (a0 : Act) (n : Nat) (ds : List Nat) (R : World → Prop) (φ : Nat → Value → World → Prop) (l : Array Bool) (a : Act) (w : World) : Prop where
  size : l.size = ops.size
  defers : a.defers = a0.defers
  tmps : a.tmps.size = a0.tmps.size
  out : ∀ k, k ∉ ds → a.tmps[k]? = a0.tmps[k]?
  inv : R w
  shut : ∀ i j, i < ops.size → l.getD i false = true → waitsFor ops i j = true → l.getD j false = true
  done : ∀ i, i < n → l.getD i false = true → φ i (a.tmps.getD (ds.getD i 0) undef) w
theorem getD_set_self (t : Array Value) (k : Nat) (v : Value) (h : k < t.size) : (t.setIfInBounds k v).getD k undef = v := by
  simp [Array.getD, h]
theorem getD_set_ne (t : Array Value) (k j : Nat) (v : Value) (h : k ≠ j) : (t.setIfInBounds k v).getD j undef = t.getD j undef := by
  simp only [Array.getD_eq_getD_getElem?]
  rw [Array.getElem?_setIfInBounds_ne h]
theorem waits_mem {i j : Nat} (h : waitsFor ops i j = true) : ∃ o, ops[i]? = some o ∧ ∃ e ∈ o.after, e.on = j ∧ Region.binds .any e = true := by
  unfold waitsFor at h
  cases ho : ops[i]? with
  | none => rw [ho] at h; cases h
  | some o =>
    rw [ho] at h
    simp only [Option.map_some, Option.getD_some, Array.any_eq_true'] at h
    obtain ⟨e, he, h⟩ := h
    simp only [Bool.and_eq_true, beq_iff_eq] at h
    exact ⟨o, rfl, e, he, h.1, h.2⟩
theorem region_flow {id : Nat} {a0 : Act} {w1 : World} (hm : P.follows .mixedOrders = true) (n : Nat) (hsz : ops.size = n + 1) (hB : flowB ops n = true)
    (ds : List Nat) (hds : (List.range n).all (fun i => ((ops[i]?).bind (·.dst)) == ds[i]?) = true) (hlen : ds.length = n) (hnd : ds.Nodup) (hlt : (ds.all fun k => decide (k < a0.tmps.size)) = true)
    (S : World → World → Prop) (R : World → Prop) (φ : Nat → Value → World → Prop) (mono : ∀ i v w w', S w w' → φ i v w → φ i v w') (h0 : R w1.drew)
    (step : ∀ i, i < n → ∀ (a : Act) (w : World), R w → (∀ k, k ∉ ds → a.tmps[k]? = a0.tmps[k]?) → (∀ j k, waitsFor ops i j = true → ds[j]? = some k → ∃ v, a.tmps[k]? = some v ∧ φ j v w) →
      wpOp P ops Q i (fun a' w' => ∃ v, a' = a.put ((ops[i]?).bind (·.dst)) v ∧ S w w' ∧ R w' ∧ φ i v w') a w)
    (last : ∀ (vs : Nat → Value) (w : World), R w → (∀ i, i < n → φ i (vs i) w) → wpOp P ops Q n (fun a' w' => Q .normal a' w') (fill a0 ds vs) w) :
    (Code.region id ops true).wp P Q a0 w1 := by
  unfold flowB at hB
  rw [Bool.and_eq_true] at hB
  obtain ⟨hall, hneed⟩ := hB
  have hk : ∀ k ∈ ds, k < a0.tmps.size := fun k hk => by simpa using List.all_eq_true.1 hlt k hk
  have hdst : ∀ i, i < n → ((ops[i]?).bind (·.dst)) = ds[i]? := fun i hi => by simpa using List.all_eq_true.1 hds i (List.mem_range.2 hi)
  have hget : ∀ i, i < n → ds[i]? = some (ds.getD i 0) := fun i hi => by rw [List.getD_eq_getElem?_getD, List.getElem?_eq_getElem (by omega)]; rfl
  have hinj : ∀ i j, i < n → j < n → ds.getD i 0 = ds.getD j 0 → i = j := fun i j hi hj e => by
    have h1 := hget i hi
    have h2 := hget j hj
    rw [e, ← h2] at h1
    exact (List.getElem?_inj (i := i) (by omega) hnd).1 h1
  refine region_inv hm (fun l a w => (l.getD n false = false ∧ FlowI ops a0 n ds R φ l a w) ∨ (l.getD n false = true ∧ (∀ i, i < ops.size → l.getD i false = true) ∧ Q .normal a w)) ?_ ?_ ?_
  · left
    have hf : ∀ i, (Array.replicate ops.size false).getD i false = false := fun i => by
      simp only [Array.getD_eq_getD_getElem?, Array.getElem?_replicate]; split <;> rfl
    exact ⟨hf n, ⟨by simp, rfl, rfl, fun _ _ => rfl, h0, (fun i j _ h _ => by rw [hf] at h; cases h), (fun i _ h => by rw [hf] at h; cases h)⟩⟩
  · intro l a w hI i hi
    obtain ⟨hilt, hil, hdep⟩ := ready_mem hi
    have hil' : l.getD i false = false := by
      simp only [Array.getD_eq_getD_getElem?] at hil ⊢
      cases h : l[i]? with
      | none => rfl
      | some b => rw [h] at hil; exact hil
    rcases hI with ⟨hln, hF⟩ | ⟨_, hAll, _⟩
    rotate_left
    · rw [hAll i hilt] at hil'; cases hil'
    have hwait : ∀ j, waitsFor ops i j = true → l.getD j false = true := fun j hj => by
      obtain ⟨o, ho, e, he, rfl, hb⟩ := waits_mem hj
      exact hdep o ho e he hb
    have hset : ∀ k, (l.setIfInBounds i true).getD k false = (if k = i then true else l.getD k false) := fun k => by
      have hlt : i < l.size := by rw [hF.size]; exact hilt
      by_cases e : k = i
      · subst e; simp [Array.getD, hlt]
      · rw [if_neg e]
        simp only [Array.getD_eq_getD_getElem?]
        rw [Array.getElem?_setIfInBounds_ne (fun e' => e e'.symm)]
    rcases Nat.lt_or_ge i n with hin | hin
    · have hst := step i hin a w hF.inv hF.out (fun j k hj hk' => by
        have hjn : j < n := by
          rcases Nat.lt_or_ge j n with h | h
          · exact h
          · rw [List.getElem?_eq_none (by omega)] at hk'; cases hk'
        have e : ds.getD j 0 = k := by rw [List.getD_eq_getElem?_getD, hk']; rfl
        have h1 := hF.done j hjn (hwait j hj)
        rw [e] at h1
        have hlt' : k < a.tmps.size := by rw [hF.tmps]; exact hk k (List.mem_of_getElem? hk')
        refine ⟨a.tmps.getD k undef, ?_, h1⟩
        simp [Array.getD, hlt'])
      refine wpOp_mono (fun a' w' h => ?_) hst
      obtain ⟨v, rfl, hS, hR, hφ⟩ := h
      left
      rw [hdst i hin, hget i hin]
      refine ⟨by rw [hset, if_neg (by omega)]; exact hln, ⟨by rw [Array.size_setIfInBounds]; exact hF.size, hF.defers, by show (a.tmps.setIfInBounds _ v).size = _; rw [Array.size_setIfInBounds]; exact hF.tmps, ?_, hR, ?_, ?_⟩⟩
      · intro k hk'
        show (a.tmps.setIfInBounds _ v)[k]? = _
        rw [Array.getElem?_setIfInBounds_ne (fun e => hk' (by rw [← e]; exact List.mem_of_getElem? (hget i hin)))]
        exact hF.out k hk'
      · intro i' j hi' h hw
        rw [hset] at h ⊢
        by_cases ej : j = i
        · rw [if_pos ej]
        · rw [if_neg ej]
          by_cases ei : i' = i
          · subst ei; exact hwait j hw
          · rw [if_neg ei] at h; exact hF.shut i' j hi' h hw
      · intro j hj h
        show φ j ((a.tmps.setIfInBounds _ v).getD _ undef) w'
        rw [hset] at h
        by_cases ej : j = i
        · subst ej
          rw [getD_set_self _ _ _ (by rw [hF.tmps]; exact hk _ (List.mem_of_getElem? (hget j hj)))]
          exact hφ
        · rw [if_neg ej] at h
          rw [getD_set_ne _ _ _ _ (fun e => ej (hinj _ _ hj hin e.symm))]
          exact mono _ _ _ _ hS (hF.done j hj h)
    · obtain rfl : i = n := by omega
      have hdone : ∀ d j, j + d = i → j < i → l.getD j false = true := by
        intro d
        induction d using Nat.strongRecOn with
        | _ d ih =>
          intro j hjd hji
          have := List.all_eq_true.1 hneed j (List.mem_range.2 hji)
          obtain ⟨k, hk', hjk⟩ := List.any_eq_true.1 this
          rw [Bool.and_eq_true, decide_eq_true_eq] at hjk
          have hkn : k < i + 1 := List.mem_range.1 hk'
          rcases Nat.lt_or_ge k i with hki | hki
          · exact hF.shut k j (by omega) (ih (i - k) (by omega) k (by omega) hki) hjk.2
          · obtain rfl : k = i := by omega
            exact hwait j hjk.2
      have hla := last (fun j => a.tmps.getD (ds.getD j 0) undef) w hF.inv (fun j hj => hF.done j hj (hdone (i - j) j (by omega) hj))
      rw [fill_eq a a0 ds hnd hk hF.defers hF.tmps hF.out] at hla
      refine wpOp_mono (fun a' w' h => ?_) hla
      right
      refine ⟨by rw [hset, if_pos rfl], fun j hj => ?_, h⟩
      rw [hset]
      by_cases e : j = i
      · rw [if_pos e]
      · rw [if_neg e]; exact hdone (i - j) j (by omega) (by omega)
  · intro l a w hI hs hr
    rcases hI with ⟨hln, _⟩ | ⟨_, _, hQ⟩
    · rw [ready_all hall hs hr n (by omega)] at hln; cases hln
    · exact hQ
theorem op_skip {i : Nat} {o : Oper} {K : Act → World → Prop} {a : Act} {w : World} (ho : ops[i]? = some o) (hw : Region.wanted o (yielded ops a.tmps) = false) (h : K (a.put o.dst undef) w) : wpOp P ops Q i K a w := by
  unfold wpOp
  rw [ho]
  show if Region.wanted o (yielded ops a.tmps) = true then _ else _
  rw [if_neg (by rw [hw]; decide)]
  exact h
theorem withK_intro {K : Act → World → Prop} {Q : Exit → Act → World → Prop} {a : Act} {w : World} (h : K a w) : withK K Q .normal a w := h
/-- What is waited for, where each operation comes to a known value. -/
theorem flow_dep {i : Nat} {ds : List Nat} {a : Act} {vals : List Value} (hdep : ∀ j k, waitsFor ops i j = true → ds[j]? = some k → ∃ v, a.tmps[k]? = some v ∧ v = vals.getD j undef) (j k : Nat) (h1 : waitsFor ops i j = true) (h2 : ds[j]? = some k) :
    a.tmps[k]? = some (vals.getD j undef) := by
  obtain ⟨v, e, rfl⟩ := hdep j k h1 h2
  exact e
theorem fillA_congr (ds : List Nat) : ∀ (t : Array Value) (vs vs' : Nat → Value) (i : Nat), (∀ j, j < ds.length → vs (i + j) = vs' (i + j)) → fillA t ds vs i = fillA t ds vs' i := by
  induction ds with
  | nil => intros; rfl
  | cons d ds ih =>
    intro t vs vs' i h
    show fillA (t.setIfInBounds d (vs i)) ds vs (i + 1) = fillA (t.setIfInBounds d (vs' i)) ds vs' (i + 1)
    have h0 := h 0 (by simp)
    rw [Nat.add_zero] at h0
    rw [h0]
    exact ih _ _ _ _ (fun j hj => by have := h (j + 1) (by simp; omega); rwa [show i + 1 + j = i + (j + 1) by omega])
theorem fill_congr (a : Act) (ds : List Nat) (vs vs' : Nat → Value) (h : ∀ j, j < ds.length → vs j = vs' j) : fill a ds vs = fill a ds vs' := by
  unfold fill
  rw [fillA_congr ds a.tmps vs vs' 0 (fun j hj => by rw [Nat.zero_add]; exact h j hj)]
end
end Go.Proofs.YthjjcmmonjajhaaGreatDoor
namespace Go.Proofs.YthjjcmmonjajhaaGreatDoor
open Go.RowKit Go.Sort
set_option linter.unusedVariables false

section
variable {P : Program} {ops : Array Oper} {Q : Exit → Act → World → Prop}
theorem region_flow2 {id : Nat} {a0 : Act} {w1 : World} (hm : P.follows .mixedOrders = true) (n : Nat) (hsz : ops.size = n + 2) (hB : flowB ops n = true) (hW : waitsFor ops (n + 1) n = true)
    (ds : List Nat) (hds : (List.range n).all (fun i => ((ops[i]?).bind (·.dst)) == ds[i]?) = true) (hlen : ds.length = n) (hnd : ds.Nodup) (hlt : (ds.all fun k => decide (k < a0.tmps.size)) = true)
    (S : World → World → Prop) (R : World → Prop) (φ : Nat → Value → World → Prop) (mono : ∀ i v w w', S w w' → φ i v w → φ i v w') (h0 : R w1.drew)
    (step : ∀ i, i < n → ∀ (a : Act) (w : World), R w → (∀ k, k ∉ ds → a.tmps[k]? = a0.tmps[k]?) → (∀ j k, waitsFor ops i j = true → ds[j]? = some k → ∃ v, a.tmps[k]? = some v ∧ φ j v w) →
      wpOp P ops Q i (fun a' w' => ∃ v, a' = a.put ((ops[i]?).bind (·.dst)) v ∧ S w w' ∧ R w' ∧ φ i v w') a w)
    (last : ∀ (vs : Nat → Value) (w : World), R w → (∀ i, i < n → φ i (vs i) w) → wpOp P ops Q n (fun a' w' => wpOp P ops Q (n + 1) (fun a'' w'' => Q .normal a'' w'') a' w') (fill a0 ds vs) w) :
    (Code.region id ops true).wp P Q a0 w1 := by
  unfold flowB at hB
  rw [Bool.and_eq_true] at hB
  obtain ⟨hall, hneed⟩ := hB
  have hk : ∀ k ∈ ds, k < a0.tmps.size := fun k hk => by simpa using List.all_eq_true.1 hlt k hk
  have hdst : ∀ i, i < n → ((ops[i]?).bind (·.dst)) = ds[i]? := fun i hi => by simpa using List.all_eq_true.1 hds i (List.mem_range.2 hi)
  have hget : ∀ i, i < n → ds[i]? = some (ds.getD i 0) := fun i hi => by rw [List.getD_eq_getElem?_getD, List.getElem?_eq_getElem (by omega)]; rfl
  have hinj : ∀ i j, i < n → j < n → ds.getD i 0 = ds.getD j 0 → i = j := fun i j hi hj e => by
    have h1 := hget i hi
    have h2 := hget j hj
    rw [e, ← h2] at h1
    exact (List.getElem?_inj (i := i) (by omega) hnd).1 h1
  refine region_inv hm (fun l a w => (l.getD n false = false ∧ FlowI ops a0 n ds R φ l a w) ∨ (l.size = ops.size ∧ l.getD (n + 1) false = false ∧ (∀ i, i < n + 1 → l.getD i false = true) ∧ wpOp P ops Q (n + 1) (fun a'' w'' => Q .normal a'' w'') a w) ∨ (l.getD n false = true ∧ l.getD (n + 1) false = true ∧ (∀ i, i < ops.size → l.getD i false = true) ∧ Q .normal a w)) ?_ ?_ ?_
  · left
    have hf : ∀ i, (Array.replicate ops.size false).getD i false = false := fun i => by
      simp only [Array.getD_eq_getD_getElem?, Array.getElem?_replicate]; split <;> rfl
    exact ⟨hf n, ⟨by simp, rfl, rfl, fun _ _ => rfl, h0, (fun i j _ h _ => by rw [hf] at h; cases h), (fun i _ h => by rw [hf] at h; cases h)⟩⟩
  · intro l a w hI i hi
    obtain ⟨hilt, hil, hdep⟩ := ready_mem hi
    have hil' : l.getD i false = false := by
      simp only [Array.getD_eq_getD_getElem?] at hil ⊢
      cases h : l[i]? with
      | none => rfl
      | some b => rw [h] at hil; exact hil
    rcases hI with ⟨hln, hF⟩ | ⟨hls, hln, hAll, hwp⟩ | ⟨_, _, hAll, _⟩
    rotate_left
    · obtain rfl : i = n + 1 := by
        rcases Nat.lt_or_ge i (n + 1) with h | h
        · rw [hAll i h] at hil'; cases hil'
        · omega
      refine wpOp_mono (fun a' w' h => ?_) hwp
      right; right
      have hset : ∀ k, k < n + 2 → (l.setIfInBounds (n + 1) true).getD k false = true := fun k hk => by
        by_cases e : k = n + 1
        · subst e; simp [Array.getD, hls, hsz]
        · simp only [Array.getD_eq_getD_getElem?]
          rw [Array.getElem?_setIfInBounds_ne (fun e' => e e'.symm)]
          have := hAll k (by omega)
          simpa only [Array.getD_eq_getD_getElem?] using this
      exact ⟨hset _ (by omega), hset _ (by omega), fun k hk => hset k (by omega), h⟩
    · rw [hAll i hilt] at hil'; cases hil'
    have hwait : ∀ j, waitsFor ops i j = true → l.getD j false = true := fun j hj => by
      obtain ⟨o, ho, e, he, rfl, hb⟩ := waits_mem hj
      exact hdep o ho e he hb
    have hset : ∀ k, (l.setIfInBounds i true).getD k false = (if k = i then true else l.getD k false) := fun k => by
      have hlt : i < l.size := by rw [hF.size]; exact hilt
      by_cases e : k = i
      · subst e; simp [Array.getD, hlt]
      · rw [if_neg e]
        simp only [Array.getD_eq_getD_getElem?]
        rw [Array.getElem?_setIfInBounds_ne (fun e' => e e'.symm)]
    rcases Nat.lt_or_ge i n with hin | hin
    · have hst := step i hin a w hF.inv hF.out (fun j k hj hk' => by
        have hjn : j < n := by
          rcases Nat.lt_or_ge j n with h | h
          · exact h
          · rw [List.getElem?_eq_none (by omega)] at hk'; cases hk'
        have e : ds.getD j 0 = k := by rw [List.getD_eq_getElem?_getD, hk']; rfl
        have h1 := hF.done j hjn (hwait j hj)
        rw [e] at h1
        have hlt' : k < a.tmps.size := by rw [hF.tmps]; exact hk k (List.mem_of_getElem? hk')
        refine ⟨a.tmps.getD k undef, ?_, h1⟩
        simp [Array.getD, hlt'])
      refine wpOp_mono (fun a' w' h => ?_) hst
      obtain ⟨v, rfl, hS, hR, hφ⟩ := h
      left
      rw [hdst i hin, hget i hin]
      refine ⟨by rw [hset, if_neg (by omega)]; exact hln, ⟨by rw [Array.size_setIfInBounds]; exact hF.size, hF.defers, by show (a.tmps.setIfInBounds _ v).size = _; rw [Array.size_setIfInBounds]; exact hF.tmps, ?_, hR, ?_, ?_⟩⟩
      · intro k hk'
        show (a.tmps.setIfInBounds _ v)[k]? = _
        rw [Array.getElem?_setIfInBounds_ne (fun e => hk' (by rw [← e]; exact List.mem_of_getElem? (hget i hin)))]
        exact hF.out k hk'
      · intro i' j hi' h hw
        rw [hset] at h ⊢
        by_cases ej : j = i
        · rw [if_pos ej]
        · rw [if_neg ej]
          by_cases ei : i' = i
          · subst ei; exact hwait j hw
          · rw [if_neg ei] at h; exact hF.shut i' j hi' h hw
      · intro j hj h
        show φ j ((a.tmps.setIfInBounds _ v).getD _ undef) w'
        rw [hset] at h
        by_cases ej : j = i
        · subst ej
          rw [getD_set_self _ _ _ (by rw [hF.tmps]; exact hk _ (List.mem_of_getElem? (hget j hj)))]
          exact hφ
        · rw [if_neg ej] at h
          rw [getD_set_ne _ _ _ _ (fun e => ej (hinj _ _ hj hin e.symm))]
          exact mono _ _ _ _ hS (hF.done j hj h)
    · obtain rfl : i = n := by
        rcases Nat.eq_or_lt_of_le hin with h | h
        · exact h.symm
        · obtain rfl : i = n + 1 := by omega
          rw [hwait n hW] at hln; cases hln
      have hdone : ∀ d j, j + d = i → j < i → l.getD j false = true := by
        intro d
        induction d using Nat.strongRecOn with
        | _ d ih =>
          intro j hjd hji
          have := List.all_eq_true.1 hneed j (List.mem_range.2 hji)
          obtain ⟨k, hk', hjk⟩ := List.any_eq_true.1 this
          rw [Bool.and_eq_true, decide_eq_true_eq] at hjk
          have hkn : k < i + 1 := List.mem_range.1 hk'
          rcases Nat.lt_or_ge k i with hki | hki
          · exact hF.shut k j (by omega) (ih (i - k) (by omega) k (by omega) hki) hjk.2
          · obtain rfl : k = i := by omega
            exact hwait j hjk.2
      have hla := last (fun j => a.tmps.getD (ds.getD j 0) undef) w hF.inv (fun j hj => hF.done j hj (hdone (i - j) j (by omega) hj))
      rw [fill_eq a a0 ds hnd hk hF.defers hF.tmps hF.out] at hla
      refine wpOp_mono (fun a' w' h => ?_) hla
      right; left
      refine ⟨by rw [Array.size_setIfInBounds]; exact hF.size, ?_, fun j hj => ?_, h⟩
      · rw [hset, if_neg (by omega)]
        cases h1 : l.getD (i + 1) false with
        | false => rfl
        | true =>
          have := hF.shut (i + 1) i (by omega) h1 hW
          rw [hln] at this; cases this
      · rw [hset]
        by_cases e : j = i
        · rw [if_pos e]
        · rw [if_neg e]; exact hdone (i - j) j (by omega) (by omega)
  · intro l a w hI hs hr
    rcases hI with ⟨hln, _⟩ | ⟨_, hln, _⟩ | ⟨_, _, _, hQ⟩
    · rw [ready_all hall hs hr n (by omega)] at hln; cases hln
    · rw [ready_all hall hs hr (n + 1) (by omega)] at hln; cases hln
    · exact hQ
end
/-- Each operation but one comes to a known value. -/
def PhiAt (m : Nat) (PH : Value → World → Prop) (vals : List Value) (j : Nat) (v : Value) (w : World) : Prop := (j = m → PH v w) ∧ (j ≠ m → v = vals.getD j undef)
theorem PhiAt.known {m : Nat} {PH : Value → World → Prop} {vals : List Value} {j : Nat} {w : World} (h : j ≠ m) : PhiAt m PH vals j (vals.getD j undef) w := ⟨fun e => absurd e h, fun _ => rfl⟩
theorem PhiAt.one {m : Nat} {PH : Value → World → Prop} {vals : List Value} {v : Value} {w : World} (h : PH v w) : PhiAt m PH vals m v w := ⟨fun _ => h, fun e => absurd rfl e⟩
theorem PhiAt.mono {m : Nat} {PH : Value → World → Prop} {vals : List Value} {j : Nat} {v : Value} {w w' : World} (h : PhiAt m PH vals j v w) (hm : PH v w → PH v w') : PhiAt m PH vals j v w' := ⟨fun e => hm (h.1 e), h.2⟩
section
variable {P : Program} {ops : Array Oper} {Q : Exit → Act → World → Prop}
/-- What is waited for, where but one operation comes to a value that is not known ahead. -/
theorem flow_dep1 {i m : Nat} {PH : Value → World → Prop} {ds : List Nat} {a : Act} {w : World} {vals : List Value} (hdep : ∀ j k, waitsFor ops i j = true → ds[j]? = some k → ∃ v, a.tmps[k]? = some v ∧ PhiAt m PH vals j v w) (j k : Nat) (h1 : waitsFor ops i j = true) (h2 : ds[j]? = some k) (hm : j ≠ m) :
    a.tmps[k]? = some (vals.getD j undef) := by
  obtain ⟨v, e, _, h⟩ := hdep j k h1 h2
  rw [e, h hm]
theorem eval_fill2 (a : Act) (ds : List Nat) (vs : Nat → Value) (j k : Nat) (hn : ds.Nodup) (hlt : (ds.all fun k => decide (k < a.tmps.size)) = true) (h : ds[j]? = some k) : (fill a ds vs).eval (.tmp k) = vs j := by
  have hk : ∀ k ∈ ds, k < a.tmps.size := fun k hk => by simpa using List.all_eq_true.1 hlt k hk
  obtain ⟨h1, _, h3⟩ := fillA_at ds a.tmps vs 0 hn hk
  have h4 := h3 j k h
  have h5 : k < (fillA a.tmps ds vs 0).size := by rw [h1]; exact hk k (List.mem_of_getElem? h)
  show (fillA a.tmps ds vs 0).getD k undef = vs j
  rw [Array.getElem?_eq_getElem h5, Nat.zero_add] at h4
  simp [Array.getD, h5, Option.some.inj h4]
end
end Go.Proofs.YthjjcmmonjajhaaGreatDoor
namespace Go.Proofs.YthjjcmmonjajhaaGreatDoor
open Go.RowKit Go.Sort
set_option linter.unusedVariables false

section
variable {P : Program} {ops : Array Oper} {Q : Exit → Act → World → Prop}
/-- What is known in the midst of the region; m: the operation that writes. -/
structure FlowB (ops : Array Oper) (a0 : Act) (n m : Nat) (ds : List Nat) (R : Bool → World → Prop) (φ : Bool → Nat → Value → World → Prop) (l : Array Bool) (a : Act) (w : World) : Prop where
  size : l.size = ops.size
  defers : a.defers = a0.defers
  tmps : a.tmps.size = a0.tmps.size
  out : ∀ k, k ∉ ds → a.tmps[k]? = a0.tmps[k]?
  inv : R (l.getD m false) w
  shut : ∀ i j, i < ops.size → l.getD i false = true → waitsFor ops i j = true → l.getD j false = true
  done : ∀ i, i < n → l.getD i false = true → φ (l.getD m false) i (a.tmps.getD (ds.getD i 0) undef) w
theorem region_flow3 {id : Nat} {a0 : Act} {w1 : World} (hm : P.follows .mixedOrders = true) (n : Nat) (hsz : ops.size = n + 1) (hB : flowB ops n = true)
    (ds : List Nat) (hds : (List.range n).all (fun i => ((ops[i]?).bind (·.dst)) == ds[i]?) = true) (hlen : ds.length = n) (hnd : ds.Nodup) (hlt : (ds.all fun k => decide (k < a0.tmps.size)) = true)
    (m : Nat) (hm1 : m < n) (E : List Nat) (hE : (E.all fun i => decide (i < m) && (List.range (m + 1)).any fun j => decide (i < j) && (j == m || E.contains j) && waitsFor ops j i) = true) (R : Bool → World → Prop) (φ : Bool → Nat → Value → World → Prop) (h0 : R false w1.drew)
    (step : ∀ i b, i < n → i ≠ m → (b = true → i ∉ E) → ∀ (a : Act) (w : World), R b w → (∀ k, k ∉ ds → a.tmps[k]? = a0.tmps[k]?) → (∀ j k, waitsFor ops i j = true → ds[j]? = some k → ∃ v, a.tmps[k]? = some v ∧ φ b j v w) →
      wpOp P ops Q i (fun a' w' => ∃ v, a' = a.put ((ops[i]?).bind (·.dst)) v ∧ (∀ j v, j < n → φ b j v w → φ b j v w') ∧ R b w' ∧ φ b i v w') a w)
    (write : ∀ (a : Act) (w : World), R false w → (∀ k, k ∉ ds → a.tmps[k]? = a0.tmps[k]?) → (∀ j k, waitsFor ops m j = true → ds[j]? = some k → ∃ v, a.tmps[k]? = some v ∧ φ false j v w) →
      wpOp P ops Q m (fun a' w' => ∃ v, a' = a.put ((ops[m]?).bind (·.dst)) v ∧ (∀ j v, j < n → j ≠ m → φ false j v w → φ true j v w') ∧ R true w' ∧ φ true m v w') a w)
    (last : ∀ (vs : Nat → Value) (w : World), R true w → (∀ i, i < n → φ true i (vs i) w) → wpOp P ops Q n (fun a' w' => Q .normal a' w') (fill a0 ds vs) w) :
    (Code.region id ops true).wp P Q a0 w1 := by
  unfold flowB at hB
  rw [Bool.and_eq_true] at hB
  obtain ⟨hall, hneed⟩ := hB
  have hk : ∀ k ∈ ds, k < a0.tmps.size := fun k hk => by simpa using List.all_eq_true.1 hlt k hk
  have hdst : ∀ i, i < n → ((ops[i]?).bind (·.dst)) = ds[i]? := fun i hi => by simpa using List.all_eq_true.1 hds i (List.mem_range.2 hi)
  have hget : ∀ i, i < n → ds[i]? = some (ds.getD i 0) := fun i hi => by rw [List.getD_eq_getElem?_getD, List.getElem?_eq_getElem (by omega)]; rfl
  have hinj : ∀ i j, i < n → j < n → ds.getD i 0 = ds.getD j 0 → i = j := fun i j hi hj e => by
    have h1 := hget i hi
    have h2 := hget j hj
    rw [e, ← h2] at h1
    exact (List.getElem?_inj (i := i) (by omega) hnd).1 h1
  refine region_inv hm (fun l a w => (l.getD n false = false ∧ FlowB ops a0 n m ds R φ l a w) ∨ (l.getD n false = true ∧ (∀ i, i < ops.size → l.getD i false = true) ∧ Q .normal a w)) ?_ ?_ ?_
  · left
    have hf : ∀ i, (Array.replicate ops.size false).getD i false = false := fun i => by
      simp only [Array.getD_eq_getD_getElem?, Array.getElem?_replicate]; split <;> rfl
    exact ⟨hf n, ⟨by simp, rfl, rfl, fun _ _ => rfl, by rw [hf]; exact h0, (fun i j _ h _ => by rw [hf] at h; cases h), (fun i _ h => by rw [hf] at h; cases h)⟩⟩
  · intro l a w hI i hi
    obtain ⟨hilt, hil, hdep⟩ := ready_mem hi
    have hil' : l.getD i false = false := by
      simp only [Array.getD_eq_getD_getElem?] at hil ⊢
      cases h : l[i]? with
      | none => rfl
      | some b => rw [h] at hil; exact hil
    rcases hI with ⟨hln, hF⟩ | ⟨_, hAll, _⟩
    rotate_left
    · rw [hAll i hilt] at hil'; cases hil'
    have hwait : ∀ j, waitsFor ops i j = true → l.getD j false = true := fun j hj => by
      obtain ⟨o, ho, e, he, rfl, hb⟩ := waits_mem hj
      exact hdep o ho e he hb
    have hset : ∀ k, (l.setIfInBounds i true).getD k false = (if k = i then true else l.getD k false) := fun k => by
      have hlt : i < l.size := by rw [hF.size]; exact hilt
      by_cases e : k = i
      · subst e; simp [Array.getD, hlt]
      · rw [if_neg e]
        simp only [Array.getD_eq_getD_getElem?]
        rw [Array.getElem?_setIfInBounds_ne (fun e' => e e'.symm)]
    rcases Nat.lt_or_ge i n with hin | hin
    · have hdp : ∀ j k, waitsFor ops i j = true → ds[j]? = some k → ∃ v, a.tmps[k]? = some v ∧ φ (l.getD m false) j v w := fun j k hj hk' => by
        have hjn : j < n := by
          rcases Nat.lt_or_ge j n with h | h
          · exact h
          · rw [List.getElem?_eq_none (by omega)] at hk'; cases hk'
        have e : ds.getD j 0 = k := by rw [List.getD_eq_getElem?_getD, hk']; rfl
        have h1 := hF.done j hjn (hwait j hj)
        rw [e] at h1
        have hlt' : k < a.tmps.size := by rw [hF.tmps]; exact hk k (List.mem_of_getElem? hk')
        refine ⟨a.tmps.getD k undef, ?_, h1⟩
        simp [Array.getD, hlt']
      have hearly : ∀ d i', i' + d = m → i' ∈ E → l.getD m false = true → l.getD i' false = true := by
        intro d
        induction d using Nat.strongRecOn with
        | _ d ih =>
          intro i' hd hi' hlm
          have := List.all_eq_true.1 hE i' hi'
          rw [Bool.and_eq_true, decide_eq_true_eq] at this
          obtain ⟨j, hj, hj2⟩ := List.any_eq_true.1 this.2
          rw [Bool.and_eq_true, Bool.and_eq_true, decide_eq_true_eq, Bool.or_eq_true] at hj2
          obtain ⟨⟨hij, hjm⟩, hw⟩ := hj2
          have hjm' : j < m + 1 := List.mem_range.1 hj
          rcases hjm with h | h
          · have : j = m := by simpa using h
            subst this
            exact hF.shut j i' (by omega) hlm hw
          · have hjE : j ∈ E := by simpa using h
            have hjm2 : j < m := by
              have := List.all_eq_true.1 hE j hjE
              rw [Bool.and_eq_true, decide_eq_true_eq] at this
              exact this.1
            exact hF.shut j i' (by omega) (ih (m - j) (by omega) j (by omega) hjE hlm) hw
      have hfin : ∀ (b' : Bool) (v : Value) (w' : World), (l.setIfInBounds i true).getD m false = b' → R b' w' → φ b' i v w' → (∀ j u, j < n → j ≠ i → φ (l.getD m false) j u w → φ b' j u w') →
          ((l.setIfInBounds i true).getD n false = false ∧ FlowB ops a0 n m ds R φ (l.setIfInBounds i true) (a.put ((ops[i]?).bind (·.dst)) v) w') := by
        intro b' v w' hb' hR hφ hmono
        rw [hdst i hin, hget i hin]
        refine ⟨by rw [hset, if_neg (by omega)]; exact hln, ⟨by rw [Array.size_setIfInBounds]; exact hF.size, hF.defers, by show (a.tmps.setIfInBounds _ v).size = _; rw [Array.size_setIfInBounds]; exact hF.tmps, ?_, by rw [hb']; exact hR, ?_, ?_⟩⟩
        · intro k hk'
          show (a.tmps.setIfInBounds _ v)[k]? = _
          rw [Array.getElem?_setIfInBounds_ne (fun e => hk' (by rw [← e]; exact List.mem_of_getElem? (hget i hin)))]
          exact hF.out k hk'
        · intro i' j hi' h hw
          rw [hset] at h ⊢
          by_cases ej : j = i
          · rw [if_pos ej]
          · rw [if_neg ej]
            by_cases ei : i' = i
            · subst ei; exact hwait j hw
            · rw [if_neg ei] at h; exact hF.shut i' j hi' h hw
        · intro j hj h
          rw [hb']
          show φ b' j ((a.tmps.setIfInBounds _ v).getD _ undef) w'
          rw [hset] at h
          by_cases ej : j = i
          · subst ej
            rw [getD_set_self _ _ _ (by rw [hF.tmps]; exact hk _ (List.mem_of_getElem? (hget j hj)))]
            exact hφ
          · rw [if_neg ej] at h
            rw [getD_set_ne _ _ _ _ (fun e => ej (hinj _ _ hj hin e.symm))]
            exact hmono _ _ hj ej (hF.done j hj h)
      by_cases him : i = m
      · subst him
        have hinv := hF.inv
        rw [hil'] at hdp hinv hfin
        refine wpOp_mono (fun a' w' h => ?_) (write a w hinv hF.out hdp)
        obtain ⟨v, rfl, hS, hR, hφ⟩ := h
        exact .inl (hfin true v w' (by rw [hset, if_pos rfl]) hR hφ hS)
      · refine wpOp_mono (fun a' w' h => ?_) (step i (l.getD m false) hin him (fun hb hi => by
          have him' : i < m := by
            have := List.all_eq_true.1 hE i hi
            rw [Bool.and_eq_true, decide_eq_true_eq] at this
            exact this.1
          rw [hearly (m - i) i (by omega) hi hb] at hil'; cases hil') a w hF.inv hF.out hdp)
        obtain ⟨v, rfl, hS, hR, hφ⟩ := h
        exact .inl (hfin (l.getD m false) v w' (by rw [hset, if_neg (fun e => him e.symm)]) hR hφ (fun j u hj _ => hS j u hj))
    · obtain rfl : i = n := by omega
      have hdone : ∀ d j, j + d = i → j < i → l.getD j false = true := by
        intro d
        induction d using Nat.strongRecOn with
        | _ d ih =>
          intro j hjd hji
          have := List.all_eq_true.1 hneed j (List.mem_range.2 hji)
          obtain ⟨k, hk', hjk⟩ := List.any_eq_true.1 this
          rw [Bool.and_eq_true, decide_eq_true_eq] at hjk
          have hkn : k < i + 1 := List.mem_range.1 hk'
          rcases Nat.lt_or_ge k i with hki | hki
          · exact hF.shut k j (by omega) (ih (i - k) (by omega) k (by omega) hki) hjk.2
          · obtain rfl : k = i := by omega
            exact hwait j hjk.2
      have hlm : l.getD m false = true := hdone (i - m) m (by omega) hm1
      have hinv := hF.inv
      have hdn := hF.done
      rw [hlm] at hinv hdn
      have hla := last (fun j => a.tmps.getD (ds.getD j 0) undef) w hinv (fun j hj => hdn j hj (hdone (i - j) j (by omega) hj))
      rw [fill_eq a a0 ds hnd hk hF.defers hF.tmps hF.out] at hla
      refine wpOp_mono (fun a' w' h => ?_) hla
      right
      refine ⟨by rw [hset, if_pos rfl], fun j hj => ?_, h⟩
      rw [hset]
      by_cases e : j = i
      · rw [if_pos e]
      · rw [if_neg e]; exact hdone (i - j) j (by omega) (by omega)
  · intro l a w hI hs hr
    rcases hI with ⟨hln, _⟩ | ⟨_, _, hQ⟩
    · rw [ready_all hall hs hr n (by omega)] at hln; cases hln
    · exact hQ
end
end Go.Proofs.YthjjcmmonjajhaaGreatDoor
namespace Go.Proofs.YthjjcmmonjajhaaGreatDoor
open Go.RowKit Go.Sort
set_option linter.unusedVariables false

/-- Edges that bind point down; each operation but the last is waited for. -/
def flowB4 (ops : Array Oper) (n : Nat) : Bool :=
  ((List.range ops.size).all fun i => ((ops[i]?).map fun o => o.after.all fun e => !Region.binds .any e || decide (e.on < i)).getD true) && ((List.range n).all fun i => (List.range (n + 1)).any fun j => decide (i < j) && waitsFor ops j i)
section
variable {P : Program} {ops : Array Oper} {Q : Exit → Act → World → Prop}
theorem ready_all4 {l : Array Bool} (hall : ((List.range ops.size).all fun i => ((ops[i]?).map fun o => o.after.all fun e => !Region.binds .any e || decide (e.on < i)).getD true) = true) (hs : l.size = ops.size) (hr : Region.ready .any ops l = []) : ∀ i, i < ops.size → l.getD i false = true := by
  have hdown : ∀ (i : Nat) (o : Oper), ops[i]? = some o → ∀ e ∈ o.after, Region.binds .any e = true → e.on < i := by
    intro i o ho e he hb
    have hi : i < ops.size := (Array.getElem?_eq_some_iff.1 ho).1
    rw [List.all_eq_true] at hall
    have := hall i (by simpa using hi)
    rw [ho] at this
    simp only [Option.map_some, Option.getD_some, Array.all_eq_true'] at this
    have := this e he
    rw [hb] at this
    simpa using this
  intro i
  induction i using Nat.strongRecOn with
  | _ i ih =>
    intro hi
    rcases hb : l.getD i false with _ | _
    · exfalso
      unfold Region.ready at hr
      rw [List.filter_eq_nil_iff] at hr
      apply hr i (by simpa using hi)
      have h1 : l.getD i true = false := by
        have : i < l.size := by omega
        simp [Array.getD, this] at hb ⊢
        exact hb
      rw [h1]
      have ho : ops[i]? = some ops[i] := Array.getElem?_eq_getElem hi
      rw [ho]
      simp only [Bool.not_false, Bool.true_and, Option.map_some, Option.getD_some, Array.all_eq_true']
      intro e he
      cases hbi : Region.binds .any e with
      | false => rfl
      | true =>
        rw [ih e.on (hdown i _ ho e he hbi) (by have := hdown i _ ho e he hbi; omega)]
        simp
    · rfl
theorem region_flow4 {id : Nat} {a0 : Act} {w1 : World} (hm : P.follows .mixedOrders = true) (n : Nat) (hsz : ops.size = n + 1) (hB : flowB4 ops n = true)
    (ds : List Nat) (m : Nat) (hds : (List.range n).all (fun i => i == m || ((ops[i]?).bind (·.dst)) == ds[i]?) = true) (hdm : (ops[m]?).bind (·.dst) = none) (hlen : ds.length = n) (hnd : ds.Nodup) (hlt : (ds.all fun k => decide (k < a0.tmps.size)) = true)
    (hm1 : m < n) (E : List Nat) (hE : (E.all fun i => decide (i < m) && (List.range (m + 1)).any fun j => decide (i < j) && (j == m || E.contains j) && waitsFor ops j i) = true) (R : Bool → World → Prop) (φ : Bool → Nat → Value → World → Prop) (h0 : R false w1.drew)
    (step : ∀ i b, i < n → i ≠ m → (b = true → i ∉ E) → ∀ (a : Act) (w : World), R b w → (∀ k, k ∉ ds → a.tmps[k]? = a0.tmps[k]?) → (∀ j k, waitsFor ops i j = true → ds[j]? = some k → ∃ v, a.tmps[k]? = some v ∧ φ b j v w) →
      wpOp P ops Q i (fun a' w' => ∃ v, a' = a.put ((ops[i]?).bind (·.dst)) v ∧ (∀ j v, j < n → φ b j v w → φ b j v w') ∧ R b w' ∧ φ b i v w') a w)
    (write : ∀ (a : Act) (w : World), R false w → (∀ k, k ∉ ds → a.tmps[k]? = a0.tmps[k]?) → (∀ j k, waitsFor ops m j = true → ds[j]? = some k → ∃ v, a.tmps[k]? = some v ∧ φ false j v w) →
      wpOp P ops Q m (fun a' w' => a' = a ∧ (∀ j, j < n → j ≠ m → φ false j (a.tmps.getD (ds.getD j 0) undef) w → φ true j (a.tmps.getD (ds.getD j 0) undef) w') ∧ R true w' ∧ ∀ v, φ true m v w') a w)
    (last : ∀ (vs : Nat → Value) (w : World), R true w → (∀ i, i < n → φ true i (vs i) w) → wpOp P ops Q n (fun a' w' => Q .normal a' w') (fill a0 ds vs) w) :
    (Code.region id ops true).wp P Q a0 w1 := by
  unfold flowB4 at hB
  rw [Bool.and_eq_true] at hB
  obtain ⟨hall, hneed⟩ := hB
  have hk : ∀ k ∈ ds, k < a0.tmps.size := fun k hk => by simpa using List.all_eq_true.1 hlt k hk
  have hdst : ∀ i, i < n → i ≠ m → ((ops[i]?).bind (·.dst)) = ds[i]? := fun i hi hne => by
    have h := List.all_eq_true.1 hds i (List.mem_range.2 hi)
    rw [Bool.or_eq_true] at h
    rcases h with h | h
    · exact absurd (by simpa using h) hne
    · simpa using h
  have hget : ∀ i, i < n → ds[i]? = some (ds.getD i 0) := fun i hi => by rw [List.getD_eq_getElem?_getD, List.getElem?_eq_getElem (by omega)]; rfl
  have hinj : ∀ i j, i < n → j < n → ds.getD i 0 = ds.getD j 0 → i = j := fun i j hi hj e => by
    have h1 := hget i hi
    have h2 := hget j hj
    rw [e, ← h2] at h1
    exact (List.getElem?_inj (i := i) (by omega) hnd).1 h1
  refine region_inv hm (fun l a w => (l.getD n false = false ∧ FlowB ops a0 n m ds R φ l a w) ∨ (l.getD n false = true ∧ (∀ i, i < ops.size → l.getD i false = true) ∧ Q .normal a w)) ?_ ?_ ?_
  · left
    have hf : ∀ i, (Array.replicate ops.size false).getD i false = false := fun i => by
      simp only [Array.getD_eq_getD_getElem?, Array.getElem?_replicate]; split <;> rfl
    exact ⟨hf n, ⟨by simp, rfl, rfl, fun _ _ => rfl, by rw [hf]; exact h0, (fun i j _ h _ => by rw [hf] at h; cases h), (fun i _ h => by rw [hf] at h; cases h)⟩⟩
  · intro l a w hI i hi
    obtain ⟨hilt, hil, hdep⟩ := ready_mem hi
    have hil' : l.getD i false = false := by
      simp only [Array.getD_eq_getD_getElem?] at hil ⊢
      cases h : l[i]? with
      | none => rfl
      | some b => rw [h] at hil; exact hil
    rcases hI with ⟨hln, hF⟩ | ⟨_, hAll, _⟩
    rotate_left
    · rw [hAll i hilt] at hil'; cases hil'
    have hwait : ∀ j, waitsFor ops i j = true → l.getD j false = true := fun j hj => by
      obtain ⟨o, ho, e, he, rfl, hb⟩ := waits_mem hj
      exact hdep o ho e he hb
    have hset : ∀ k, (l.setIfInBounds i true).getD k false = (if k = i then true else l.getD k false) := fun k => by
      have hlt : i < l.size := by rw [hF.size]; exact hilt
      by_cases e : k = i
      · subst e; simp [Array.getD, hlt]
      · rw [if_neg e]
        simp only [Array.getD_eq_getD_getElem?]
        rw [Array.getElem?_setIfInBounds_ne (fun e' => e e'.symm)]
    rcases Nat.lt_or_ge i n with hin | hin
    · have hdp : ∀ j k, waitsFor ops i j = true → ds[j]? = some k → ∃ v, a.tmps[k]? = some v ∧ φ (l.getD m false) j v w := fun j k hj hk' => by
        have hjn : j < n := by
          rcases Nat.lt_or_ge j n with h | h
          · exact h
          · rw [List.getElem?_eq_none (by omega)] at hk'; cases hk'
        have e : ds.getD j 0 = k := by rw [List.getD_eq_getElem?_getD, hk']; rfl
        have h1 := hF.done j hjn (hwait j hj)
        rw [e] at h1
        have hlt' : k < a.tmps.size := by rw [hF.tmps]; exact hk k (List.mem_of_getElem? hk')
        refine ⟨a.tmps.getD k undef, ?_, h1⟩
        simp [Array.getD, hlt']
      have hearly : ∀ d i', i' + d = m → i' ∈ E → l.getD m false = true → l.getD i' false = true := by
        intro d
        induction d using Nat.strongRecOn with
        | _ d ih =>
          intro i' hd hi' hlm
          have := List.all_eq_true.1 hE i' hi'
          rw [Bool.and_eq_true, decide_eq_true_eq] at this
          obtain ⟨j, hj, hj2⟩ := List.any_eq_true.1 this.2
          rw [Bool.and_eq_true, Bool.and_eq_true, decide_eq_true_eq, Bool.or_eq_true] at hj2
          obtain ⟨⟨hij, hjm⟩, hw⟩ := hj2
          have hjm' : j < m + 1 := List.mem_range.1 hj
          rcases hjm with h | h
          · have : j = m := by simpa using h
            subst this
            exact hF.shut j i' (by omega) hlm hw
          · have hjE : j ∈ E := by simpa using h
            have hjm2 : j < m := by
              have := List.all_eq_true.1 hE j hjE
              rw [Bool.and_eq_true, decide_eq_true_eq] at this
              exact this.1
            exact hF.shut j i' (by omega) (ih (m - j) (by omega) j (by omega) hjE hlm) hw
      have hfin : i ≠ m → ∀ (b' : Bool) (v : Value) (w' : World), (l.setIfInBounds i true).getD m false = b' → R b' w' → φ b' i v w' → (∀ j u, j < n → j ≠ i → φ (l.getD m false) j u w → φ b' j u w') →
          ((l.setIfInBounds i true).getD n false = false ∧ FlowB ops a0 n m ds R φ (l.setIfInBounds i true) (a.put ((ops[i]?).bind (·.dst)) v) w') := by
        intro him b' v w' hb' hR hφ hmono
        rw [hdst i hin him, hget i hin]
        refine ⟨by rw [hset, if_neg (by omega)]; exact hln, ⟨by rw [Array.size_setIfInBounds]; exact hF.size, hF.defers, by show (a.tmps.setIfInBounds _ v).size = _; rw [Array.size_setIfInBounds]; exact hF.tmps, ?_, by rw [hb']; exact hR, ?_, ?_⟩⟩
        · intro k hk'
          show (a.tmps.setIfInBounds _ v)[k]? = _
          rw [Array.getElem?_setIfInBounds_ne (fun e => hk' (by rw [← e]; exact List.mem_of_getElem? (hget i hin)))]
          exact hF.out k hk'
        · intro i' j hi' h hw
          rw [hset] at h ⊢
          by_cases ej : j = i
          · rw [if_pos ej]
          · rw [if_neg ej]
            by_cases ei : i' = i
            · subst ei; exact hwait j hw
            · rw [if_neg ei] at h; exact hF.shut i' j hi' h hw
        · intro j hj h
          rw [hb']
          show φ b' j ((a.tmps.setIfInBounds _ v).getD _ undef) w'
          rw [hset] at h
          by_cases ej : j = i
          · subst ej
            rw [getD_set_self _ _ _ (by rw [hF.tmps]; exact hk _ (List.mem_of_getElem? (hget j hj)))]
            exact hφ
          · rw [if_neg ej] at h
            rw [getD_set_ne _ _ _ _ (fun e => ej (hinj _ _ hj hin e.symm))]
            exact hmono _ _ hj ej (hF.done j hj h)
      by_cases him : i = m
      · subst him
        have hinv := hF.inv
        rw [hil'] at hdp hinv
        refine wpOp_mono (fun a' w' h => ?_) (write a w hinv hF.out hdp)
        obtain ⟨rfl, hS, hR, hφ⟩ := h
        left
        have hb' : (l.setIfInBounds i true).getD i false = true := by rw [hset, if_pos rfl]
        refine ⟨by rw [hset, if_neg (by omega)]; exact hln, ⟨by rw [Array.size_setIfInBounds]; exact hF.size, hF.defers, hF.tmps, hF.out, by rw [hb']; exact hR, ?_, ?_⟩⟩
        · intro i' j hi' h hw
          rw [hset] at h ⊢
          by_cases ej : j = i
          · rw [if_pos ej]
          · rw [if_neg ej]
            by_cases ei : i' = i
            · subst ei; exact hwait j hw
            · rw [if_neg ei] at h; exact hF.shut i' j hi' h hw
        · intro j hj h
          rw [hb']
          rw [hset] at h
          by_cases ej : j = i
          · subst ej; exact hφ _
          · rw [if_neg ej] at h
            have := hF.done j hj h
            rw [hil'] at this
            exact hS _ hj ej this
      · refine wpOp_mono (fun a' w' h => ?_) (step i (l.getD m false) hin him (fun hb hi => by
          have him' : i < m := by
            have := List.all_eq_true.1 hE i hi
            rw [Bool.and_eq_true, decide_eq_true_eq] at this
            exact this.1
          rw [hearly (m - i) i (by omega) hi hb] at hil'; cases hil') a w hF.inv hF.out hdp)
        obtain ⟨v, rfl, hS, hR, hφ⟩ := h
        exact .inl (hfin him (l.getD m false) v w' (by rw [hset, if_neg (fun e => him e.symm)]) hR hφ (fun j u hj _ => hS j u hj))
    · obtain rfl : i = n := by omega
      have hdone : ∀ d j, j + d = i → j < i → l.getD j false = true := by
        intro d
        induction d using Nat.strongRecOn with
        | _ d ih =>
          intro j hjd hji
          have := List.all_eq_true.1 hneed j (List.mem_range.2 hji)
          obtain ⟨k, hk', hjk⟩ := List.any_eq_true.1 this
          rw [Bool.and_eq_true, decide_eq_true_eq] at hjk
          have hkn : k < i + 1 := List.mem_range.1 hk'
          rcases Nat.lt_or_ge k i with hki | hki
          · exact hF.shut k j (by omega) (ih (i - k) (by omega) k (by omega) hki) hjk.2
          · obtain rfl : k = i := by omega
            exact hwait j hjk.2
      have hlm : l.getD m false = true := hdone (i - m) m (by omega) hm1
      have hinv := hF.inv
      have hdn := hF.done
      rw [hlm] at hinv hdn
      have hla := last (fun j => a.tmps.getD (ds.getD j 0) undef) w hinv (fun j hj => hdn j hj (hdone (i - j) j (by omega) hj))
      rw [fill_eq a a0 ds hnd hk hF.defers hF.tmps hF.out] at hla
      refine wpOp_mono (fun a' w' h => ?_) hla
      right
      refine ⟨by rw [hset, if_pos rfl], fun j hj => ?_, h⟩
      rw [hset]
      by_cases e : j = i
      · rw [if_pos e]
      · rw [if_neg e]; exact hdone (i - j) j (by omega) (by omega)
  · intro l a w hI hs hr
    rcases hI with ⟨hln, _⟩ | ⟨_, _, hQ⟩
    · rw [ready_all4 hall hs hr n (by omega)] at hln; cases hln
    · exact hQ
end
end Go.Proofs.YthjjcmmonjajhaaGreatDoor
