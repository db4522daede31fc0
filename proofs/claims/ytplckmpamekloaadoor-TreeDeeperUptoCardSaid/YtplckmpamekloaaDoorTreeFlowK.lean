/- The same, where an operation may spend what another one came to. -/
import Derived.Test.YtplckmpamekloaaDoorTreeFlow
namespace Go.Proofs.YtplckmpamekloaaDoor
open Go.RowKit Go.Sort
set_option linter.unusedVariables false

section
variable {P : Program} {ops : Array Oper} {Q : Exit → Act → World → Prop}
/-- What is known in the midst of the region. -/
structure FlowK (ops : Array Oper) (a0 : Act) (n : Nat) (ds : List Nat) (K : Nat → Nat → Bool) (R : World → Prop) (φ : Nat → Value → World → Prop) (l : Array Bool) (a : Act) (w : World) : Prop where
  size : l.size = ops.size
  defers : a.defers = a0.defers
  tmps : a.tmps.size = a0.tmps.size
  out : ∀ k, k ∉ ds → a.tmps[k]? = a0.tmps[k]?
  inv : R w
  shut : ∀ i j, i < ops.size → l.getD i false = true → waitsFor ops i j = true → l.getD j false = true
  done : ∀ i, i < n → l.getD i false = true → (∀ k, k < n → l.getD k false = true → K k i = false) → φ i (a.tmps.getD (ds.getD i 0) undef) w
theorem region_flow_kill {id : Nat} {a0 : Act} {w1 : World} (hm : P.follows .mixedOrders = true) (n : Nat) (hsz : ops.size = n + 1) (hB : flowB ops n = true)
    (ds : List Nat) (hds : (List.range n).all (fun i => ((ops[i]?).bind (·.dst)) == ds[i]?) = true) (hlen : ds.length = n) (hnd : ds.Nodup) (hlt : (ds.all fun k => decide (k < a0.tmps.size)) = true)
    (K : Nat → Nat → Bool) (hK : ((List.range n).all fun i => (List.range n).all fun j => !(waitsFor ops i j) || (List.range n).all fun k => !(K k j) || (decide (k = i) || waitsFor ops k i)) = true) (R : World → Prop) (φ : Nat → Value → World → Prop) (h0 : R w1.drew)
    (step : ∀ i, i < n → ∀ (a : Act) (w : World), R w → (∀ k, k ∉ ds → a.tmps[k]? = a0.tmps[k]?) → (∀ j k, waitsFor ops i j = true → ds[j]? = some k → ∃ v, a.tmps[k]? = some v ∧ φ j v w) →
      wpOp P ops Q i (fun a' w' => ∃ v, a' = a.put ((ops[i]?).bind (·.dst)) v ∧ (∀ j v, j < n → j ≠ i → K i j = false → waitsFor ops j i = false → φ j v w → φ j v w') ∧ R w' ∧ φ i v w') a w)
    (last : ∀ (vs : Nat → Value) (w : World), R w → (∀ i, i < n → (∀ k, k < n → K k i = false) → φ i (vs i) w) → wpOp P ops Q n (fun a' w' => Q .normal a' w') (fill a0 ds vs) w) :
    (Code.region id ops true).wp P Q a0 w1 := by
  unfold flowB at hB
  rw [Bool.and_eq_true] at hB
  obtain ⟨hall, hneed⟩ := hB
  have hk : ∀ k ∈ ds, k < a0.tmps.size := fun k hk => by simpa using List.all_eq_true.1 hlt k hk
  have hdst : ∀ i, i < n → ((ops[i]?).bind (·.dst)) = ds[i]? := fun i hi => by simpa using List.all_eq_true.1 hds i (List.mem_range.2 hi)
  have hget : ∀ i, i < n → ds[i]? = some (ds.getD i 0) := fun i hi => by rw [List.getD_eq_getElem?_getD, List.getElem?_eq_getElem (by omega)]; rfl
  have hinj : ∀ i j, i < n → j < n → ds.getD i 0 = ds.getD j 0 → i = j := fun i j hi hj e => by
    have h1 := hget i hi
    have h2 := hget j hj
    rw [e, ← h2] at h1
    exact (List.getElem?_inj (i := i) (by omega) hnd).1 h1
  refine region_inv hm (fun l a w => (l.getD n false = false ∧ FlowK ops a0 n ds K R φ l a w) ∨ (l.getD n false = true ∧ (∀ i, i < ops.size → l.getD i false = true) ∧ Q .normal a w)) ?_ ?_ ?_
  · left
    have hf : ∀ i, (Array.replicate ops.size false).getD i false = false := fun i => by
      simp only [Array.getD_eq_getD_getElem?, Array.getElem?_replicate]; split <;> rfl
    exact ⟨hf n, ⟨by simp, rfl, rfl, fun _ _ => rfl, h0, (fun i j _ h _ => by rw [hf] at h; cases h), (fun i _ h _ => by rw [hf] at h; cases h)⟩⟩
  · intro l a w hI i hi
    obtain ⟨hilt, hil, hdep⟩ := ready_mem hi
    have hil' : l.getD i false = false := by
      simp only [Array.getD_eq_getD_getElem?] at hil ⊢
      cases h : l[i]? with
      | none => rfl
      | some b => rw [h] at hil; exact hil
    rcases hI with ⟨hln, hF⟩ | ⟨_, hAll, _⟩
    rotate_left
    · rw [hAll i hilt] at hil'; cases hil'
    have hwait : ∀ j, waitsFor ops i j = true → l.getD j false = true := fun j hj => by
      obtain ⟨o, ho, e, he, rfl, hb⟩ := waits_mem hj
      exact hdep o ho e he hb
    have hset : ∀ k, (l.setIfInBounds i true).getD k false = (if k = i then true else l.getD k false) := fun k => by
      have hlt : i < l.size := by rw [hF.size]; exact hilt
      by_cases e : k = i
      · subst e; simp [Array.getD, hlt]
      · rw [if_neg e]
        simp only [Array.getD_eq_getD_getElem?]
        rw [Array.getElem?_setIfInBounds_ne (fun e' => e e'.symm)]
    have hmono : ∀ k, l.getD k false = true → (l.setIfInBounds i true).getD k false = true := fun k h => by
      rw [hset]
      split
      · rfl
      · exact h
    rcases Nat.lt_or_ge i n with hin | hin
    · have hst := step i hin a w hF.inv hF.out (fun j k hj hk' => by
        have hjn : j < n := by
          rcases Nat.lt_or_ge j n with h | h
          · exact h
          · rw [List.getElem?_eq_none (by omega)] at hk'; cases hk'
        have e : ds.getD j 0 = k := by rw [List.getD_eq_getElem?_getD, hk']; rfl
        have h1 := hF.done j hjn (hwait j hj) (fun k hkn hlk => by
          have q := List.all_eq_true.1 (List.all_eq_true.1 hK i (List.mem_range.2 hin)) j (List.mem_range.2 hjn)
          rw [hj] at q
          have q2 : ∀ x, x < n → K x j = false ∨ x = i ∨ waitsFor ops x i = true := by simpa using q
          rcases q2 k hkn with q3 | rfl | q3
          · exact q3
          · rw [hil'] at hlk; cases hlk
          · rw [hF.shut k i (by omega) hlk q3] at hil'; cases hil')
        rw [e] at h1
        have hlt' : k < a.tmps.size := by rw [hF.tmps]; exact hk k (List.mem_of_getElem? hk')
        refine ⟨a.tmps.getD k undef, ?_, h1⟩
        simp [Array.getD, hlt'])
      refine wpOp_mono (fun a' w' h => ?_) hst
      obtain ⟨v, rfl, hS, hR, hφ⟩ := h
      left
      rw [hdst i hin, hget i hin]
      refine ⟨by rw [hset, if_neg (by omega)]; exact hln, ⟨by rw [Array.size_setIfInBounds]; exact hF.size, hF.defers, by show (a.tmps.setIfInBounds _ v).size = _; rw [Array.size_setIfInBounds]; exact hF.tmps, ?_, hR, ?_, ?_⟩⟩
      · intro k hk'
        show (a.tmps.setIfInBounds _ v)[k]? = _
        rw [Array.getElem?_setIfInBounds_ne (fun e => hk' (by rw [← e]; exact List.mem_of_getElem? (hget i hin)))]
        exact hF.out k hk'
      · intro i' j hi' h hw
        rw [hset] at h ⊢
        by_cases ej : j = i
        · rw [if_pos ej]
        · rw [if_neg ej]
          by_cases ei : i' = i
          · subst ei; exact hwait j hw
          · rw [if_neg ei] at h; exact hF.shut i' j hi' h hw
      · intro j hj h hkill
        show φ j ((a.tmps.setIfInBounds _ v).getD _ undef) w'
        rw [hset] at h
        by_cases ej : j = i
        · subst ej
          rw [getD_set_self _ _ _ (by rw [hF.tmps]; exact hk _ (List.mem_of_getElem? (hget j hj)))]
          exact hφ
        · rw [if_neg ej] at h
          have h' := h
          rw [getD_set_ne _ _ _ _ (fun e => ej (hinj _ _ hj hin e.symm))]
          have hki : K i j = false := hkill i hin (by rw [hset, if_pos rfl])
          have hwi : waitsFor ops j i = false := by
            cases hw : waitsFor ops j i with
            | false => rfl
            | true => rw [hF.shut j i (by omega) h' hw] at hil'; cases hil'
          exact hS _ _ hj ej hki hwi (hF.done j hj h (fun k hkn hlk => hkill k hkn (hmono k hlk)))
    · obtain rfl : i = n := by omega
      have hdone : ∀ d j, j + d = i → j < i → l.getD j false = true := by
        intro d
        induction d using Nat.strongRecOn with
        | _ d ih =>
          intro j hjd hji
          have := List.all_eq_true.1 hneed j (List.mem_range.2 hji)
          obtain ⟨k, hk', hjk⟩ := List.any_eq_true.1 this
          rw [Bool.and_eq_true, decide_eq_true_eq] at hjk
          have hkn : k < i + 1 := List.mem_range.1 hk'
          rcases Nat.lt_or_ge k i with hki | hki
          · exact hF.shut k j (by omega) (ih (i - k) (by omega) k (by omega) hki) hjk.2
          · obtain rfl : k = i := by omega
            exact hwait j hjk.2
      have hla := last (fun j => a.tmps.getD (ds.getD j 0) undef) w hF.inv (fun j hj hkill => hF.done j hj (hdone (i - j) j (by omega) hj) (fun k hkn _ => hkill k hkn))
      rw [fill_eq a a0 ds hnd hk hF.defers hF.tmps hF.out] at hla
      refine wpOp_mono (fun a' w' h => ?_) hla
      right
      refine ⟨by rw [hset, if_pos rfl], fun j hj => ?_, h⟩
      rw [hset]
      by_cases e : j = i
      · rw [if_pos e]
      · rw [if_neg e]; exact hdone (i - j) j (by omega) (by omega)
  · intro l a w hI hs hr
    rcases hI with ⟨hln, _⟩ | ⟨_, _, hQ⟩
    · rw [ready_all hall hs hr n (by omega)] at hln; cases hln
    · exact hQ
end
end Go.Proofs.YtplckmpamekloaaDoor
