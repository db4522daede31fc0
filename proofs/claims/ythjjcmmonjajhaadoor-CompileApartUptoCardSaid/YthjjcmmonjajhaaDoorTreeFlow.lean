/- A region that draws its order: each operation comes to a value that is known by what it waits for; what lies is kept. One goal a region. -/
import Derived.Test.YthjjcmmonjajhaaDoorTreeInv
namespace Go.Proofs.YthjjcmmonjajhaaDoor
open Go.RowKit Go.Sort
set_option linter.unusedVariables false

/-- Does operation i wait for operation j? -/
def waitsFor (ops : Array Oper) (i j : Nat) : Bool := ((ops[i]?).map fun o => o.after.any fun e => e.on == j && Region.binds .any e).getD false
/-- Edges point down; each operation but the last is waited for. -/
def flowB (ops : Array Oper) (n : Nat) : Bool :=
  ((List.range ops.size).all fun i => ((ops[i]?).map fun o => o.after.all fun e => decide (e.on < i)).getD true) && ((List.range n).all fun i => (List.range (n + 1)).any fun j => decide (i < j) && waitsFor ops j i)
def fillA (t : Array Value) : List Nat → (Nat → Value) → Nat → Array Value
  | [], _, _ => t
  | k :: ds, vs, i => fillA (t.setIfInBounds k (vs i)) ds vs (i + 1)
def fill (a : Act) (ds : List Nat) (vs : Nat → Value) : Act := { a with tmps := fillA a.tmps ds vs 0 }
theorem fillA_at (ds : List Nat) : ∀ (t : Array Value) (vs : Nat → Value) (i : Nat), ds.Nodup → (∀ k ∈ ds, k < t.size) →
    (fillA t ds vs i).size = t.size ∧ (∀ k, k ∉ ds → (fillA t ds vs i)[k]? = t[k]?) ∧ ∀ j k, ds[j]? = some k → (fillA t ds vs i)[k]? = some (vs (i + j)) := by
  induction ds with
  | nil => intro t vs i _ _; exact ⟨rfl, fun _ _ => rfl, fun j k h => by simp at h⟩
  | cons d ds ih =>
    intro t vs i hn hk
    obtain ⟨hd, hn'⟩ := List.nodup_cons.1 hn
    obtain ⟨h1, h2, h3⟩ := ih (t.setIfInBounds d (vs i)) vs (i + 1) hn' (fun k h => by rw [Array.size_setIfInBounds]; exact hk k (List.mem_cons_of_mem _ h))
    refine ⟨by show (fillA _ ds vs (i + 1)).size = _; rw [h1, Array.size_setIfInBounds], ?_, ?_⟩
    · intro k hk'
      have hne : d ≠ k := fun e => hk' (by rw [e]; exact List.mem_cons_self ..)
      show (fillA _ ds vs (i + 1))[k]? = _
      rw [h2 k (fun h => hk' (List.mem_cons_of_mem _ h)), Array.getElem?_setIfInBounds_ne hne]
    · intro j k hj
      show (fillA _ ds vs (i + 1))[k]? = _
      cases j with
      | zero =>
        obtain rfl : d = k := by simpa using hj
        rw [h2 d hd, Array.getElem?_setIfInBounds_self_of_lt (hk d (List.mem_cons_self ..))]; rfl
      | succ j =>
        rw [h3 j k (by simpa using hj)]
        congr 2; omega
theorem fill_eq (a a0 : Act) (ds : List Nat) (hn : ds.Nodup) (hk : ∀ k ∈ ds, k < a0.tmps.size) (hd : a.defers = a0.defers) (hs : a.tmps.size = a0.tmps.size) (ho : ∀ k, k ∉ ds → a.tmps[k]? = a0.tmps[k]?) :
    fill a0 ds (fun i => a.tmps.getD (ds.getD i 0) undef) = a := by
  obtain ⟨h1, h2, h3⟩ := fillA_at ds a0.tmps (fun i => a.tmps.getD (ds.getD i 0) undef) 0 hn hk
  have : fillA a0.tmps ds (fun i => a.tmps.getD (ds.getD i 0) undef) 0 = a.tmps := by
    apply Array.ext_getElem?
    intro k
    by_cases hkd : k ∈ ds
    · obtain ⟨j, hj⟩ := List.mem_iff_getElem?.1 hkd
      rw [h3 j k hj, Nat.zero_add]
      have hlt : k < a.tmps.size := by rw [hs]; exact hk k hkd
      have e : ds.getD j 0 = k := by rw [List.getD_eq_getElem?_getD, hj]; rfl
      rw [e]
      simp [Array.getD, hlt]
    · rw [h2 k hkd, ho k hkd]
  unfold fill
  rw [this, ← hd]

section
variable {P : Program} {ops : Array Oper} {Q : Exit → Act → World → Prop}
/-- What is known in the midst of the region. -/
structure FlowI (ops : Array Oper) (a0 : Act) (n : Nat) (ds : List Nat) (R : World → Prop) (φ : Nat → Value → World → Prop) (l : Array Bool) (a : Act) (w : World) : Prop where
  size : l.size = ops.size
  defers : a.defers = a0.defers
  tmps : a.tmps.size = a0.tmps.size
  out : ∀ k, k ∉ ds → a.tmps[k]? = a0.tmps[k]?
  inv : R w
  shut : ∀ i j, i < ops.size → l.getD i false = true → waitsFor ops i j = true → l.getD j false = true
  done : ∀ i, i < n → l.getD i false = true → φ i (a.tmps.getD (ds.getD i 0) undef) w
theorem getD_set_self (t : Array Value) (k : Nat) (v : Value) (h : k < t.size) : (t.setIfInBounds k v).getD k undef = v := by
  simp [Array.getD, h]
theorem getD_set_ne (t : Array Value) (k j : Nat) (v : Value) (h : k ≠ j) : (t.setIfInBounds k v).getD j undef = t.getD j undef := by
  simp only [Array.getD_eq_getD_getElem?]
  rw [Array.getElem?_setIfInBounds_ne h]
theorem waits_mem {i j : Nat} (h : waitsFor ops i j = true) : ∃ o, ops[i]? = some o ∧ ∃ e ∈ o.after, e.on = j ∧ Region.binds .any e = true := by
  unfold waitsFor at h
  cases ho : ops[i]? with
  | none => rw [ho] at h; cases h
  | some o =>
    rw [ho] at h
    simp only [Option.map_some, Option.getD_some, Array.any_eq_true'] at h
    obtain ⟨e, he, h⟩ := h
    simp only [Bool.and_eq_true, beq_iff_eq] at h
    exact ⟨o, rfl, e, he, h.1, h.2⟩
theorem region_flow {id : Nat} {a0 : Act} {w1 : World} (hm : P.follows .mixedOrders = true) (n : Nat) (hsz : ops.size = n + 1) (hB : flowB ops n = true)
    (ds : List Nat) (hds : (List.range n).all (fun i => ((ops[i]?).bind (·.dst)) == ds[i]?) = true) (hlen : ds.length = n) (hnd : ds.Nodup) (hlt : (ds.all fun k => decide (k < a0.tmps.size)) = true)
    (S : World → World → Prop) (R : World → Prop) (φ : Nat → Value → World → Prop) (mono : ∀ i v w w', S w w' → φ i v w → φ i v w') (h0 : R w1.drew)
    (step : ∀ i, i < n → ∀ (a : Act) (w : World), R w → (∀ k, k ∉ ds → a.tmps[k]? = a0.tmps[k]?) → (∀ j k, waitsFor ops i j = true → ds[j]? = some k → ∃ v, a.tmps[k]? = some v ∧ φ j v w) →
      wpOp P ops Q i (fun a' w' => ∃ v, a' = a.put ((ops[i]?).bind (·.dst)) v ∧ S w w' ∧ R w' ∧ φ i v w') a w)
    (last : ∀ (vs : Nat → Value) (w : World), R w → (∀ i, i < n → φ i (vs i) w) → wpOp P ops Q n (fun a' w' => Q .normal a' w') (fill a0 ds vs) w) :
    (Code.region id ops true).wp P Q a0 w1 := by
  unfold flowB at hB
  rw [Bool.and_eq_true] at hB
  obtain ⟨hall, hneed⟩ := hB
  have hk : ∀ k ∈ ds, k < a0.tmps.size := fun k hk => by simpa using List.all_eq_true.1 hlt k hk
  have hdst : ∀ i, i < n → ((ops[i]?).bind (·.dst)) = ds[i]? := fun i hi => by simpa using List.all_eq_true.1 hds i (List.mem_range.2 hi)
  have hget : ∀ i, i < n → ds[i]? = some (ds.getD i 0) := fun i hi => by rw [List.getD_eq_getElem?_getD, List.getElem?_eq_getElem (by omega)]; rfl
  have hinj : ∀ i j, i < n → j < n → ds.getD i 0 = ds.getD j 0 → i = j := fun i j hi hj e => by
    have h1 := hget i hi
    have h2 := hget j hj
    rw [e, ← h2] at h1
    exact (List.getElem?_inj (i := i) (by omega) hnd).1 h1
  refine region_inv hm (fun l a w => (l.getD n false = false ∧ FlowI ops a0 n ds R φ l a w) ∨ (l.getD n false = true ∧ (∀ i, i < ops.size → l.getD i false = true) ∧ Q .normal a w)) ?_ ?_ ?_
  · left
    have hf : ∀ i, (Array.replicate ops.size false).getD i false = false := fun i => by
      simp only [Array.getD_eq_getD_getElem?, Array.getElem?_replicate]; split <;> rfl
    exact ⟨hf n, ⟨by simp, rfl, rfl, fun _ _ => rfl, h0, (fun i j _ h _ => by rw [hf] at h; cases h), (fun i _ h => by rw [hf] at h; cases h)⟩⟩
  · intro l a w hI i hi
    obtain ⟨hilt, hil, hdep⟩ := ready_mem hi
    have hil' : l.getD i false = false := by
      simp only [Array.getD_eq_getD_getElem?] at hil ⊢
      cases h : l[i]? with
      | none => rfl
      | some b => rw [h] at hil; exact hil
    rcases hI with ⟨hln, hF⟩ | ⟨_, hAll, _⟩
    rotate_left
    · rw [hAll i hilt] at hil'; cases hil'
    have hwait : ∀ j, waitsFor ops i j = true → l.getD j false = true := fun j hj => by
      obtain ⟨o, ho, e, he, rfl, hb⟩ := waits_mem hj
      exact hdep o ho e he hb
    have hset : ∀ k, (l.setIfInBounds i true).getD k false = (if k = i then true else l.getD k false) := fun k => by
      have hlt : i < l.size := by rw [hF.size]; exact hilt
      by_cases e : k = i
      · subst e; simp [Array.getD, hlt]
      · rw [if_neg e]
        simp only [Array.getD_eq_getD_getElem?]
        rw [Array.getElem?_setIfInBounds_ne (fun e' => e e'.symm)]
    rcases Nat.lt_or_ge i n with hin | hin
    · have hst := step i hin a w hF.inv hF.out (fun j k hj hk' => by
        have hjn : j < n := by
          rcases Nat.lt_or_ge j n with h | h
          · exact h
          · rw [List.getElem?_eq_none (by omega)] at hk'; cases hk'
        have e : ds.getD j 0 = k := by rw [List.getD_eq_getElem?_getD, hk']; rfl
        have h1 := hF.done j hjn (hwait j hj)
        rw [e] at h1
        have hlt' : k < a.tmps.size := by rw [hF.tmps]; exact hk k (List.mem_of_getElem? hk')
        refine ⟨a.tmps.getD k undef, ?_, h1⟩
        simp [Array.getD, hlt'])
      refine wpOp_mono (fun a' w' h => ?_) hst
      obtain ⟨v, rfl, hS, hR, hφ⟩ := h
      left
      rw [hdst i hin, hget i hin]
      refine ⟨by rw [hset, if_neg (by omega)]; exact hln, ⟨by rw [Array.size_setIfInBounds]; exact hF.size, hF.defers, by show (a.tmps.setIfInBounds _ v).size = _; rw [Array.size_setIfInBounds]; exact hF.tmps, ?_, hR, ?_, ?_⟩⟩
      · intro k hk'
        show (a.tmps.setIfInBounds _ v)[k]? = _
        rw [Array.getElem?_setIfInBounds_ne (fun e => hk' (by rw [← e]; exact List.mem_of_getElem? (hget i hin)))]
        exact hF.out k hk'
      · intro i' j hi' h hw
        rw [hset] at h ⊢
        by_cases ej : j = i
        · rw [if_pos ej]
        · rw [if_neg ej]
          by_cases ei : i' = i
          · subst ei; exact hwait j hw
          · rw [if_neg ei] at h; exact hF.shut i' j hi' h hw
      · intro j hj h
        show φ j ((a.tmps.setIfInBounds _ v).getD _ undef) w'
        rw [hset] at h
        by_cases ej : j = i
        · subst ej
          rw [getD_set_self _ _ _ (by rw [hF.tmps]; exact hk _ (List.mem_of_getElem? (hget j hj)))]
          exact hφ
        · rw [if_neg ej] at h
          rw [getD_set_ne _ _ _ _ (fun e => ej (hinj _ _ hj hin e.symm))]
          exact mono _ _ _ _ hS (hF.done j hj h)
    · obtain rfl : i = n := by omega
      have hdone : ∀ d j, j + d = i → j < i → l.getD j false = true := by
        intro d
        induction d using Nat.strongRecOn with
        | _ d ih =>
          intro j hjd hji
          have := List.all_eq_true.1 hneed j (List.mem_range.2 hji)
          obtain ⟨k, hk', hjk⟩ := List.any_eq_true.1 this
          rw [Bool.and_eq_true, decide_eq_true_eq] at hjk
          have hkn : k < i + 1 := List.mem_range.1 hk'
          rcases Nat.lt_or_ge k i with hki | hki
          · exact hF.shut k j (by omega) (ih (i - k) (by omega) k (by omega) hki) hjk.2
          · obtain rfl : k = i := by omega
            exact hwait j hjk.2
      have hla := last (fun j => a.tmps.getD (ds.getD j 0) undef) w hF.inv (fun j hj => hF.done j hj (hdone (i - j) j (by omega) hj))
      rw [fill_eq a a0 ds hnd hk hF.defers hF.tmps hF.out] at hla
      refine wpOp_mono (fun a' w' h => ?_) hla
      right
      refine ⟨by rw [hset, if_pos rfl], fun j hj => ?_, h⟩
      rw [hset]
      by_cases e : j = i
      · rw [if_pos e]
      · rw [if_neg e]; exact hdone (i - j) j (by omega) (by omega)
  · intro l a w hI hs hr
    rcases hI with ⟨hln, _⟩ | ⟨_, _, hQ⟩
    · rw [ready_all hall hs hr n (by omega)] at hln; cases hln
    · exact hQ
theorem op_skip {i : Nat} {o : Oper} {K : Act → World → Prop} {a : Act} {w : World} (ho : ops[i]? = some o) (hw : Region.wanted o (yielded ops a.tmps) = false) (h : K (a.put o.dst undef) w) : wpOp P ops Q i K a w := by
  unfold wpOp
  rw [ho]
  show if Region.wanted o (yielded ops a.tmps) = true then _ else _
  rw [if_neg (by rw [hw]; decide)]
  exact h
theorem withK_intro {K : Act → World → Prop} {Q : Exit → Act → World → Prop} {a : Act} {w : World} (h : K a w) : withK K Q .normal a w := h
/-- What is waited for, where each operation comes to a known value. -/
theorem flow_dep {i : Nat} {ds : List Nat} {a : Act} {vals : List Value} (hdep : ∀ j k, waitsFor ops i j = true → ds[j]? = some k → ∃ v, a.tmps[k]? = some v ∧ v = vals.getD j undef) (j k : Nat) (h1 : waitsFor ops i j = true) (h2 : ds[j]? = some k) :
    a.tmps[k]? = some (vals.getD j undef) := by
  obtain ⟨v, e, rfl⟩ := hdep j k h1 h2
  exact e
theorem fillA_congr (ds : List Nat) : ∀ (t : Array Value) (vs vs' : Nat → Value) (i : Nat), (∀ j, j < ds.length → vs (i + j) = vs' (i + j)) → fillA t ds vs i = fillA t ds vs' i := by
  induction ds with
  | nil => intros; rfl
  | cons d ds ih =>
    intro t vs vs' i h
    show fillA (t.setIfInBounds d (vs i)) ds vs (i + 1) = fillA (t.setIfInBounds d (vs' i)) ds vs' (i + 1)
    have h0 := h 0 (by simp)
    rw [Nat.add_zero] at h0
    rw [h0]
    exact ih _ _ _ _ (fun j hj => by have := h (j + 1) (by simp; omega); rwa [show i + 1 + j = i + (j + 1) by omega])
theorem fill_congr (a : Act) (ds : List Nat) (vs vs' : Nat → Value) (h : ∀ j, j < ds.length → vs j = vs' j) : fill a ds vs = fill a ds vs' := by
  unfold fill
  rw [fillA_congr ds a.tmps vs vs' 0 (fun j hj => by rw [Nat.zero_add]; exact h j hj)]
end
end Go.Proofs.YthjjcmmonjajhaaDoor
