/- A region as in TreeFlow, the last two operations of which write: all others are done ahead of them. -/
import Derived.Test.YthjjcmmonjajhaaDoorTreeFlow
namespace Go.Proofs.YthjjcmmonjajhaaDoor
open Go.RowKit Go.Sort
set_option linter.unusedVariables false

section
variable {P : Program} {ops : Array Oper} {Q : Exit → Act → World → Prop}
theorem region_flow2 {id : Nat} {a0 : Act} {w1 : World} (hm : P.follows .mixedOrders = true) (n : Nat) (hsz : ops.size = n + 2) (hB : flowB ops n = true) (hW : waitsFor ops (n + 1) n = true)
    (ds : List Nat) (hds : (List.range n).all (fun i => ((ops[i]?).bind (·.dst)) == ds[i]?) = true) (hlen : ds.length = n) (hnd : ds.Nodup) (hlt : (ds.all fun k => decide (k < a0.tmps.size)) = true)
    (S : World → World → Prop) (R : World → Prop) (φ : Nat → Value → World → Prop) (mono : ∀ i v w w', S w w' → φ i v w → φ i v w') (h0 : R w1.drew)
    (step : ∀ i, i < n → ∀ (a : Act) (w : World), R w → (∀ k, k ∉ ds → a.tmps[k]? = a0.tmps[k]?) → (∀ j k, waitsFor ops i j = true → ds[j]? = some k → ∃ v, a.tmps[k]? = some v ∧ φ j v w) →
      wpOp P ops Q i (fun a' w' => ∃ v, a' = a.put ((ops[i]?).bind (·.dst)) v ∧ S w w' ∧ R w' ∧ φ i v w') a w)
    (last : ∀ (vs : Nat → Value) (w : World), R w → (∀ i, i < n → φ i (vs i) w) → wpOp P ops Q n (fun a' w' => wpOp P ops Q (n + 1) (fun a'' w'' => Q .normal a'' w'') a' w') (fill a0 ds vs) w) :
    (Code.region id ops true).wp P Q a0 w1 := by
  unfold flowB at hB
  rw [Bool.and_eq_true] at hB
  obtain ⟨hall, hneed⟩ := hB
  have hk : ∀ k ∈ ds, k < a0.tmps.size := fun k hk => by simpa using List.all_eq_true.1 hlt k hk
  have hdst : ∀ i, i < n → ((ops[i]?).bind (·.dst)) = ds[i]? := fun i hi => by simpa using List.all_eq_true.1 hds i (List.mem_range.2 hi)
  have hget : ∀ i, i < n → ds[i]? = some (ds.getD i 0) := fun i hi => by rw [List.getD_eq_getElem?_getD, List.getElem?_eq_getElem (by omega)]; rfl
  have hinj : ∀ i j, i < n → j < n → ds.getD i 0 = ds.getD j 0 → i = j := fun i j hi hj e => by
    have h1 := hget i hi
    have h2 := hget j hj
    rw [e, ← h2] at h1
    exact (List.getElem?_inj (i := i) (by omega) hnd).1 h1
  refine region_inv hm (fun l a w => (l.getD n false = false ∧ FlowI ops a0 n ds R φ l a w) ∨ (l.size = ops.size ∧ l.getD (n + 1) false = false ∧ (∀ i, i < n + 1 → l.getD i false = true) ∧ wpOp P ops Q (n + 1) (fun a'' w'' => Q .normal a'' w'') a w) ∨ (l.getD n false = true ∧ l.getD (n + 1) false = true ∧ (∀ i, i < ops.size → l.getD i false = true) ∧ Q .normal a w)) ?_ ?_ ?_
  · left
    have hf : ∀ i, (Array.replicate ops.size false).getD i false = false := fun i => by
      simp only [Array.getD_eq_getD_getElem?, Array.getElem?_replicate]; split <;> rfl
    exact ⟨hf n, ⟨by simp, rfl, rfl, fun _ _ => rfl, h0, (fun i j _ h _ => by rw [hf] at h; cases h), (fun i _ h => by rw [hf] at h; cases h)⟩⟩
  · intro l a w hI i hi
    obtain ⟨hilt, hil, hdep⟩ := ready_mem hi
    have hil' : l.getD i false = false := by
      simp only [Array.getD_eq_getD_getElem?] at hil ⊢
      cases h : l[i]? with
      | none => rfl
      | some b => rw [h] at hil; exact hil
    rcases hI with ⟨hln, hF⟩ | ⟨hls, hln, hAll, hwp⟩ | ⟨_, _, hAll, _⟩
    rotate_left
    · obtain rfl : i = n + 1 := by
        rcases Nat.lt_or_ge i (n + 1) with h | h
        · rw [hAll i h] at hil'; cases hil'
        · omega
      refine wpOp_mono (fun a' w' h => ?_) hwp
      right; right
      have hset : ∀ k, k < n + 2 → (l.setIfInBounds (n + 1) true).getD k false = true := fun k hk => by
        by_cases e : k = n + 1
        · subst e; simp [Array.getD, hls, hsz]
        · simp only [Array.getD_eq_getD_getElem?]
          rw [Array.getElem?_setIfInBounds_ne (fun e' => e e'.symm)]
          have := hAll k (by omega)
          simpa only [Array.getD_eq_getD_getElem?] using this
      exact ⟨hset _ (by omega), hset _ (by omega), fun k hk => hset k (by omega), h⟩
    · rw [hAll i hilt] at hil'; cases hil'
    have hwait : ∀ j, waitsFor ops i j = true → l.getD j false = true := fun j hj => by
      obtain ⟨o, ho, e, he, rfl, hb⟩ := waits_mem hj
      exact hdep o ho e he hb
    have hset : ∀ k, (l.setIfInBounds i true).getD k false = (if k = i then true else l.getD k false) := fun k => by
      have hlt : i < l.size := by rw [hF.size]; exact hilt
      by_cases e : k = i
      · subst e; simp [Array.getD, hlt]
      · rw [if_neg e]
        simp only [Array.getD_eq_getD_getElem?]
        rw [Array.getElem?_setIfInBounds_ne (fun e' => e e'.symm)]
    rcases Nat.lt_or_ge i n with hin | hin
    · have hst := step i hin a w hF.inv hF.out (fun j k hj hk' => by
        have hjn : j < n := by
          rcases Nat.lt_or_ge j n with h | h
          · exact h
          · rw [List.getElem?_eq_none (by omega)] at hk'; cases hk'
        have e : ds.getD j 0 = k := by rw [List.getD_eq_getElem?_getD, hk']; rfl
        have h1 := hF.done j hjn (hwait j hj)
        rw [e] at h1
        have hlt' : k < a.tmps.size := by rw [hF.tmps]; exact hk k (List.mem_of_getElem? hk')
        refine ⟨a.tmps.getD k undef, ?_, h1⟩
        simp [Array.getD, hlt'])
      refine wpOp_mono (fun a' w' h => ?_) hst
      obtain ⟨v, rfl, hS, hR, hφ⟩ := h
      left
      rw [hdst i hin, hget i hin]
      refine ⟨by rw [hset, if_neg (by omega)]; exact hln, ⟨by rw [Array.size_setIfInBounds]; exact hF.size, hF.defers, by show (a.tmps.setIfInBounds _ v).size = _; rw [Array.size_setIfInBounds]; exact hF.tmps, ?_, hR, ?_, ?_⟩⟩
      · intro k hk'
        show (a.tmps.setIfInBounds _ v)[k]? = _
        rw [Array.getElem?_setIfInBounds_ne (fun e => hk' (by rw [← e]; exact List.mem_of_getElem? (hget i hin)))]
        exact hF.out k hk'
      · intro i' j hi' h hw
        rw [hset] at h ⊢
        by_cases ej : j = i
        · rw [if_pos ej]
        · rw [if_neg ej]
          by_cases ei : i' = i
          · subst ei; exact hwait j hw
          · rw [if_neg ei] at h; exact hF.shut i' j hi' h hw
      · intro j hj h
        show φ j ((a.tmps.setIfInBounds _ v).getD _ undef) w'
        rw [hset] at h
        by_cases ej : j = i
        · subst ej
          rw [getD_set_self _ _ _ (by rw [hF.tmps]; exact hk _ (List.mem_of_getElem? (hget j hj)))]
          exact hφ
        · rw [if_neg ej] at h
          rw [getD_set_ne _ _ _ _ (fun e => ej (hinj _ _ hj hin e.symm))]
          exact mono _ _ _ _ hS (hF.done j hj h)
    · obtain rfl : i = n := by
        rcases Nat.eq_or_lt_of_le hin with h | h
        · exact h.symm
        · obtain rfl : i = n + 1 := by omega
          rw [hwait n hW] at hln; cases hln
      have hdone : ∀ d j, j + d = i → j < i → l.getD j false = true := by
        intro d
        induction d using Nat.strongRecOn with
        | _ d ih =>
          intro j hjd hji
          have := List.all_eq_true.1 hneed j (List.mem_range.2 hji)
          obtain ⟨k, hk', hjk⟩ := List.any_eq_true.1 this
          rw [Bool.and_eq_true, decide_eq_true_eq] at hjk
          have hkn : k < i + 1 := List.mem_range.1 hk'
          rcases Nat.lt_or_ge k i with hki | hki
          · exact hF.shut k j (by omega) (ih (i - k) (by omega) k (by omega) hki) hjk.2
          · obtain rfl : k = i := by omega
            exact hwait j hjk.2
      have hla := last (fun j => a.tmps.getD (ds.getD j 0) undef) w hF.inv (fun j hj => hF.done j hj (hdone (i - j) j (by omega) hj))
      rw [fill_eq a a0 ds hnd hk hF.defers hF.tmps hF.out] at hla
      refine wpOp_mono (fun a' w' h => ?_) hla
      right; left
      refine ⟨by rw [Array.size_setIfInBounds]; exact hF.size, ?_, fun j hj => ?_, h⟩
      · rw [hset, if_neg (by omega)]
        cases h1 : l.getD (i + 1) false with
        | false => rfl
        | true =>
          have := hF.shut (i + 1) i (by omega) h1 hW
          rw [hln] at this; cases this
      · rw [hset]
        by_cases e : j = i
        · rw [if_pos e]
        · rw [if_neg e]; exact hdone (i - j) j (by omega) (by omega)
  · intro l a w hI hs hr
    rcases hI with ⟨hln, _⟩ | ⟨_, hln, _⟩ | ⟨_, _, _, hQ⟩
    · rw [ready_all hall hs hr n (by omega)] at hln; cases hln
    · rw [ready_all hall hs hr (n + 1) (by omega)] at hln; cases hln
    · exact hQ
end
/-- Each operation but one comes to a known value. -/
def PhiAt (m : Nat) (PH : Value → World → Prop) (vals : List Value) (j : Nat) (v : Value) (w : World) : Prop := (j = m → PH v w) ∧ (j ≠ m → v = vals.getD j undef)
theorem PhiAt.known {m : Nat} {PH : Value → World → Prop} {vals : List Value} {j : Nat} {w : World} (h : j ≠ m) : PhiAt m PH vals j (vals.getD j undef) w := ⟨fun e => absurd e h, fun _ => rfl⟩
theorem PhiAt.one {m : Nat} {PH : Value → World → Prop} {vals : List Value} {v : Value} {w : World} (h : PH v w) : PhiAt m PH vals m v w := ⟨fun _ => h, fun e => absurd rfl e⟩
theorem PhiAt.mono {m : Nat} {PH : Value → World → Prop} {vals : List Value} {j : Nat} {v : Value} {w w' : World} (h : PhiAt m PH vals j v w) (hm : PH v w → PH v w') : PhiAt m PH vals j v w' := ⟨fun e => hm (h.1 e), h.2⟩
section
variable {P : Program} {ops : Array Oper} {Q : Exit → Act → World → Prop}
/-- What is waited for, where but one operation comes to a value that is not known ahead. -/
theorem flow_dep1 {i m : Nat} {PH : Value → World → Prop} {ds : List Nat} {a : Act} {w : World} {vals : List Value} (hdep : ∀ j k, waitsFor ops i j = true → ds[j]? = some k → ∃ v, a.tmps[k]? = some v ∧ PhiAt m PH vals j v w) (j k : Nat) (h1 : waitsFor ops i j = true) (h2 : ds[j]? = some k) (hm : j ≠ m) :
    a.tmps[k]? = some (vals.getD j undef) := by
  obtain ⟨v, e, _, h⟩ := hdep j k h1 h2
  rw [e, h hm]
theorem eval_fill2 (a : Act) (ds : List Nat) (vs : Nat → Value) (j k : Nat) (hn : ds.Nodup) (hlt : (ds.all fun k => decide (k < a.tmps.size)) = true) (h : ds[j]? = some k) : (fill a ds vs).eval (.tmp k) = vs j := by
  have hk : ∀ k ∈ ds, k < a.tmps.size := fun k hk => by simpa using List.all_eq_true.1 hlt k hk
  obtain ⟨h1, _, h3⟩ := fillA_at ds a.tmps vs 0 hn hk
  have h4 := h3 j k h
  have h5 : k < (fillA a.tmps ds vs 0).size := by rw [h1]; exact hk k (List.mem_of_getElem? h)
  show (fillA a.tmps ds vs 0).getD k undef = vs j
  rw [Array.getElem?_eq_getElem h5, Nat.zero_add] at h4
  simp [Array.getD, h5, Option.some.inj h4]
end
end Go.Proofs.YthjjcmmonjajhaaDoor
