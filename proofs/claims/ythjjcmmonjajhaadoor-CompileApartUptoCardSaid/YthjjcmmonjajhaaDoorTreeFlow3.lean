/- A region as in TreeFlow, one operation of which writes what others ahead of it read; the last one may write too. -/
import Derived.Test.YthjjcmmonjajhaaDoorTreeFlow2
namespace Go.Proofs.YthjjcmmonjajhaaDoor
open Go.RowKit Go.Sort
set_option linter.unusedVariables false

section
variable {P : Program} {ops : Array Oper} {Q : Exit → Act → World → Prop}
/-- What is known in the midst of the region; m: the operation that writes. -/
structure FlowB (ops : Array Oper) (a0 : Act) (n m : Nat) (ds : List Nat) (R : Bool → World → Prop) (φ : Bool → Nat → Value → World → Prop) (l : Array Bool) (a : Act) (w : World) : Prop where
  size : l.size = ops.size
  defers : a.defers = a0.defers
  tmps : a.tmps.size = a0.tmps.size
  out : ∀ k, k ∉ ds → a.tmps[k]? = a0.tmps[k]?
  inv : R (l.getD m false) w
  shut : ∀ i j, i < ops.size → l.getD i false = true → waitsFor ops i j = true → l.getD j false = true
  done : ∀ i, i < n → l.getD i false = true → φ (l.getD m false) i (a.tmps.getD (ds.getD i 0) undef) w
theorem region_flow3 {id : Nat} {a0 : Act} {w1 : World} (hm : P.follows .mixedOrders = true) (n : Nat) (hsz : ops.size = n + 1) (hB : flowB ops n = true)
    (ds : List Nat) (hds : (List.range n).all (fun i => ((ops[i]?).bind (·.dst)) == ds[i]?) = true) (hlen : ds.length = n) (hnd : ds.Nodup) (hlt : (ds.all fun k => decide (k < a0.tmps.size)) = true)
    (m : Nat) (hm1 : m < n) (E : List Nat) (hE : (E.all fun i => decide (i < m) && (List.range (m + 1)).any fun j => decide (i < j) && (j == m || E.contains j) && waitsFor ops j i) = true) (R : Bool → World → Prop) (φ : Bool → Nat → Value → World → Prop) (h0 : R false w1.drew)
    (step : ∀ i b, i < n → i ≠ m → (b = true → i ∉ E) → ∀ (a : Act) (w : World), R b w → (∀ k, k ∉ ds → a.tmps[k]? = a0.tmps[k]?) → (∀ j k, waitsFor ops i j = true → ds[j]? = some k → ∃ v, a.tmps[k]? = some v ∧ φ b j v w) →
      wpOp P ops Q i (fun a' w' => ∃ v, a' = a.put ((ops[i]?).bind (·.dst)) v ∧ (∀ j v, j < n → φ b j v w → φ b j v w') ∧ R b w' ∧ φ b i v w') a w)
    (write : ∀ (a : Act) (w : World), R false w → (∀ k, k ∉ ds → a.tmps[k]? = a0.tmps[k]?) → (∀ j k, waitsFor ops m j = true → ds[j]? = some k → ∃ v, a.tmps[k]? = some v ∧ φ false j v w) →
      wpOp P ops Q m (fun a' w' => ∃ v, a' = a.put ((ops[m]?).bind (·.dst)) v ∧ (∀ j v, j < n → j ≠ m → φ false j v w → φ true j v w') ∧ R true w' ∧ φ true m v w') a w)
    (last : ∀ (vs : Nat → Value) (w : World), R true w → (∀ i, i < n → φ true i (vs i) w) → wpOp P ops Q n (fun a' w' => Q .normal a' w') (fill a0 ds vs) w) :
    (Code.region id ops true).wp P Q a0 w1 := by
  unfold flowB at hB
  rw [Bool.and_eq_true] at hB
  obtain ⟨hall, hneed⟩ := hB
  have hk : ∀ k ∈ ds, k < a0.tmps.size := fun k hk => by simpa using List.all_eq_true.1 hlt k hk
  have hdst : ∀ i, i < n → ((ops[i]?).bind (·.dst)) = ds[i]? := fun i hi => by simpa using List.all_eq_true.1 hds i (List.mem_range.2 hi)
  have hget : ∀ i, i < n → ds[i]? = some (ds.getD i 0) := fun i hi => by rw [List.getD_eq_getElem?_getD, List.getElem?_eq_getElem (by omega)]; rfl
  have hinj : ∀ i j, i < n → j < n → ds.getD i 0 = ds.getD j 0 → i = j := fun i j hi hj e => by
    have h1 := hget i hi
    have h2 := hget j hj
    rw [e, ← h2] at h1
    exact (List.getElem?_inj (i := i) (by omega) hnd).1 h1
  refine region_inv hm (fun l a w => (l.getD n false = false ∧ FlowB ops a0 n m ds R φ l a w) ∨ (l.getD n false = true ∧ (∀ i, i < ops.size → l.getD i false = true) ∧ Q .normal a w)) ?_ ?_ ?_
  · left
    have hf : ∀ i, (Array.replicate ops.size false).getD i false = false := fun i => by
      simp only [Array.getD_eq_getD_getElem?, Array.getElem?_replicate]; split <;> rfl
    exact ⟨hf n, ⟨by simp, rfl, rfl, fun _ _ => rfl, by rw [hf]; exact h0, (fun i j _ h _ => by rw [hf] at h; cases h), (fun i _ h => by rw [hf] at h; cases h)⟩⟩
  · intro l a w hI i hi
    obtain ⟨hilt, hil, hdep⟩ := ready_mem hi
    have hil' : l.getD i false = false := by
      simp only [Array.getD_eq_getD_getElem?] at hil ⊢
      cases h : l[i]? with
      | none => rfl
      | some b => rw [h] at hil; exact hil
    rcases hI with ⟨hln, hF⟩ | ⟨_, hAll, _⟩
    rotate_left
    · rw [hAll i hilt] at hil'; cases hil'
    have hwait : ∀ j, waitsFor ops i j = true → l.getD j false = true := fun j hj => by
      obtain ⟨o, ho, e, he, rfl, hb⟩ := waits_mem hj
      exact hdep o ho e he hb
    have hset : ∀ k, (l.setIfInBounds i true).getD k false = (if k = i then true else l.getD k false) := fun k => by
      have hlt : i < l.size := by rw [hF.size]; exact hilt
      by_cases e : k = i
      · subst e; simp [Array.getD, hlt]
      · rw [if_neg e]
        simp only [Array.getD_eq_getD_getElem?]
        rw [Array.getElem?_setIfInBounds_ne (fun e' => e e'.symm)]
    rcases Nat.lt_or_ge i n with hin | hin
    · have hdp : ∀ j k, waitsFor ops i j = true → ds[j]? = some k → ∃ v, a.tmps[k]? = some v ∧ φ (l.getD m false) j v w := fun j k hj hk' => by
        have hjn : j < n := by
          rcases Nat.lt_or_ge j n with h | h
          · exact h
          · rw [List.getElem?_eq_none (by omega)] at hk'; cases hk'
        have e : ds.getD j 0 = k := by rw [List.getD_eq_getElem?_getD, hk']; rfl
        have h1 := hF.done j hjn (hwait j hj)
        rw [e] at h1
        have hlt' : k < a.tmps.size := by rw [hF.tmps]; exact hk k (List.mem_of_getElem? hk')
        refine ⟨a.tmps.getD k undef, ?_, h1⟩
        simp [Array.getD, hlt']
      have hearly : ∀ d i', i' + d = m → i' ∈ E → l.getD m false = true → l.getD i' false = true := by
        intro d
        induction d using Nat.strongRecOn with
        | _ d ih =>
          intro i' hd hi' hlm
          have := List.all_eq_true.1 hE i' hi'
          rw [Bool.and_eq_true, decide_eq_true_eq] at this
          obtain ⟨j, hj, hj2⟩ := List.any_eq_true.1 this.2
          rw [Bool.and_eq_true, Bool.and_eq_true, decide_eq_true_eq, Bool.or_eq_true] at hj2
          obtain ⟨⟨hij, hjm⟩, hw⟩ := hj2
          have hjm' : j < m + 1 := List.mem_range.1 hj
          rcases hjm with h | h
          · have : j = m := by simpa using h
            subst this
            exact hF.shut j i' (by omega) hlm hw
          · have hjE : j ∈ E := by simpa using h
            have hjm2 : j < m := by
              have := List.all_eq_true.1 hE j hjE
              rw [Bool.and_eq_true, decide_eq_true_eq] at this
              exact this.1
            exact hF.shut j i' (by omega) (ih (m - j) (by omega) j (by omega) hjE hlm) hw
      have hfin : ∀ (b' : Bool) (v : Value) (w' : World), (l.setIfInBounds i true).getD m false = b' → R b' w' → φ b' i v w' → (∀ j u, j < n → j ≠ i → φ (l.getD m false) j u w → φ b' j u w') →
          ((l.setIfInBounds i true).getD n false = false ∧ FlowB ops a0 n m ds R φ (l.setIfInBounds i true) (a.put ((ops[i]?).bind (·.dst)) v) w') := by
        intro b' v w' hb' hR hφ hmono
        rw [hdst i hin, hget i hin]
        refine ⟨by rw [hset, if_neg (by omega)]; exact hln, ⟨by rw [Array.size_setIfInBounds]; exact hF.size, hF.defers, by show (a.tmps.setIfInBounds _ v).size = _; rw [Array.size_setIfInBounds]; exact hF.tmps, ?_, by rw [hb']; exact hR, ?_, ?_⟩⟩
        · intro k hk'
          show (a.tmps.setIfInBounds _ v)[k]? = _
          rw [Array.getElem?_setIfInBounds_ne (fun e => hk' (by rw [← e]; exact List.mem_of_getElem? (hget i hin)))]
          exact hF.out k hk'
        · intro i' j hi' h hw
          rw [hset] at h ⊢
          by_cases ej : j = i
          · rw [if_pos ej]
          · rw [if_neg ej]
            by_cases ei : i' = i
            · subst ei; exact hwait j hw
            · rw [if_neg ei] at h; exact hF.shut i' j hi' h hw
        · intro j hj h
          rw [hb']
          show φ b' j ((a.tmps.setIfInBounds _ v).getD _ undef) w'
          rw [hset] at h
          by_cases ej : j = i
          · subst ej
            rw [getD_set_self _ _ _ (by rw [hF.tmps]; exact hk _ (List.mem_of_getElem? (hget j hj)))]
            exact hφ
          · rw [if_neg ej] at h
            rw [getD_set_ne _ _ _ _ (fun e => ej (hinj _ _ hj hin e.symm))]
            exact hmono _ _ hj ej (hF.done j hj h)
      by_cases him : i = m
      · subst him
        have hinv := hF.inv
        rw [hil'] at hdp hinv hfin
        refine wpOp_mono (fun a' w' h => ?_) (write a w hinv hF.out hdp)
        obtain ⟨v, rfl, hS, hR, hφ⟩ := h
        exact .inl (hfin true v w' (by rw [hset, if_pos rfl]) hR hφ hS)
      · refine wpOp_mono (fun a' w' h => ?_) (step i (l.getD m false) hin him (fun hb hi => by
          have him' : i < m := by
            have := List.all_eq_true.1 hE i hi
            rw [Bool.and_eq_true, decide_eq_true_eq] at this
            exact this.1
          rw [hearly (m - i) i (by omega) hi hb] at hil'; cases hil') a w hF.inv hF.out hdp)
        obtain ⟨v, rfl, hS, hR, hφ⟩ := h
        exact .inl (hfin (l.getD m false) v w' (by rw [hset, if_neg (fun e => him e.symm)]) hR hφ (fun j u hj _ => hS j u hj))
    · obtain rfl : i = n := by omega
      have hdone : ∀ d j, j + d = i → j < i → l.getD j false = true := by
        intro d
        induction d using Nat.strongRecOn with
        | _ d ih =>
          intro j hjd hji
          have := List.all_eq_true.1 hneed j (List.mem_range.2 hji)
          obtain ⟨k, hk', hjk⟩ := List.any_eq_true.1 this
          rw [Bool.and_eq_true, decide_eq_true_eq] at hjk
          have hkn : k < i + 1 := List.mem_range.1 hk'
          rcases Nat.lt_or_ge k i with hki | hki
          · exact hF.shut k j (by omega) (ih (i - k) (by omega) k (by omega) hki) hjk.2
          · obtain rfl : k = i := by omega
            exact hwait j hjk.2
      have hlm : l.getD m false = true := hdone (i - m) m (by omega) hm1
      have hinv := hF.inv
      have hdn := hF.done
      rw [hlm] at hinv hdn
      have hla := last (fun j => a.tmps.getD (ds.getD j 0) undef) w hinv (fun j hj => hdn j hj (hdone (i - j) j (by omega) hj))
      rw [fill_eq a a0 ds hnd hk hF.defers hF.tmps hF.out] at hla
      refine wpOp_mono (fun a' w' h => ?_) hla
      right
      refine ⟨by rw [hset, if_pos rfl], fun j hj => ?_, h⟩
      rw [hset]
      by_cases e : j = i
      · rw [if_pos e]
      · rw [if_neg e]; exact hdone (i - j) j (by omega) (by omega)
  · intro l a w hI hs hr
    rcases hI with ⟨hln, _⟩ | ⟨_, _, hQ⟩
    · rw [ready_all hall hs hr n (by omega)] at hln; cases hln
    · exact hQ
end
end Go.Proofs.YthjjcmmonjajhaaDoor
