/- A region that draws its order, by an invariant: each operation is looked at once. -/
import Derived.Test.YthjjcmmonjajhaaDoorTreeKit
import Derived.Orders
import Derived.RegionTactic
namespace Go.Proofs.YthjjcmmonjajhaaDoor
open Go.RowKit Go.Sort
set_option linter.unusedVariables false

section
variable {P : Program} {ops : Array Oper} {Q : Exit → Act → World → Prop}
/-- How many are not listed yet. -/
def left (l : Array Bool) : Nat := l.toList.countP (fun b => !b)
theorem left_next (l : Array Bool) (i : Nat) (h : l.getD i true = false) : left (l.setIfInBounds i true) + 1 = left l := by
  obtain ⟨l⟩ := l
  have hi : i < l.length := by
    rcases Nat.lt_or_ge i l.length with h' | h'
    · exact h'
    · simp [h'] at h
  have hv : l[i] = false := by simpa [hi] using h
  unfold left
  simp only [List.setIfInBounds_toArray]
  clear h
  induction l generalizing i with
  | nil => simp at hi
  | cons x l ih =>
    cases i with
    | zero =>
      simp at hv; subst hv
      simp
    | succ i =>
      have := ih i (by simpa using hi) (by simpa using hv)
      simp only [List.set_cons_succ, List.countP_cons]
      omega
theorem ready_nil (l : Array Bool) (hs : l.size = ops.size) (h : left l = 0) : Region.ready .any ops l = [] := by
  unfold Region.ready
  rw [List.filter_eq_nil_iff]
  intro i hi
  have hi' : i < l.size := by rw [hs]; simpa using hi
  have : l.getD i true = true := by
    unfold left at h
    rw [List.countP_eq_zero] at h
    have := h (l[i]) (by simp)
    simp [hi'] at this ⊢
    exact this
  simp [this]
theorem wpAny_inv (Inv : Array Bool → Act → World → Prop)
    (hstep : ∀ l a w, Inv l a w → ∀ i ∈ Region.ready .any ops l, wpOp P ops Q i (fun a' w' => Inv (l.setIfInBounds i true) a' w') a w)
    (hdone : ∀ l a w, Inv l a w → l.size = ops.size → Region.ready .any ops l = [] → Q .normal a w) :
    ∀ fuel l a w, l.size = ops.size → left l ≤ fuel → Inv l a w → wpAny P .any ops Q fuel l a w := by
  intro fuel
  induction fuel with
  | zero =>
    intro l a w hs hl h
    have hr := ready_nil (ops := ops) l hs (by omega)
    exact ⟨hr, hdone l a w h hs hr⟩
  | succ fuel ih =>
    intro l a w hs hl h
    refine ⟨fun hr => hdone l a w h hs hr, ?_⟩
    intro i hi
    have h1 := hstep l a w h i hi
    have hf : l.getD i true = false := by
      unfold Region.ready at hi
      rw [List.mem_filter] at hi
      have := hi.2
      simp only [Bool.and_eq_true, Bool.not_eq_true'] at this
      exact this.1
    have hle : left (l.setIfInBounds i true) ≤ fuel := by have := left_next l i hf; omega
    have hk : ∀ a w, Inv (l.setIfInBounds i true) a w → wpAny P .any ops Q fuel (l.setIfInBounds i true) a w := fun a w h => ih _ a w (by simp [hs]) hle h
    exact wpOp_mono hk h1
/-- Q, but K where all goes on. -/
def withK (K : Act → World → Prop) (Q : Exit → Act → World → Prop) : Exit → Act → World → Prop
  | .normal, a, w => K a w
  | .exit n, a, w => Q (.exit n) a w
  | .ret, a, w => Q .ret a w
  | e, a, w => Q e a w
theorem upon_withK {o : Oper} {a : Act} {K K' : Act → World → Prop} (r : Result Next) (h : o.upon P a K (withK K' Q) r) : o.upon P a K Q r := by
  cases r with
  | ok n w' =>
    cases n <;> simp only [Oper.upon] at h ⊢ <;>
      first
        | exact h
        | exact Calls.mono h (fun e w'' he => by cases e <;> first | exact he | (obtain ⟨a, w, h⟩ := he; exact ⟨a, w, h⟩))
  | halt x w' => cases x <;> simp only [Oper.upon] at h ⊢ <;> exact h
theorem op_list {i : Nat} {o : Oper} {K : Act → World → Prop} {a : Act} {w : World} (ho : ops[i]? = some o) (h : wpList P ops (withK K Q) [o] a w) : wpOp P ops Q i K a w := by
  unfold wpOp
  rw [ho]
  unfold wpList at h
  show if Region.wanted o (yielded ops a.tmps) = true then _ else _
  split at h
  · rename_i hw
    rw [if_pos hw]
    rcases h with h | ⟨h, a', w', h'⟩
    · exact .inl (upon_withK _ h)
    · exact .inr ⟨h, a', w', h'⟩
  · rename_i hw
    rw [if_neg hw]
    exact h
theorem ready_mem {l : Array Bool} {i : Nat} (h : i ∈ Region.ready .any ops l) : i < ops.size ∧ l.getD i true = false ∧ ∀ o, ops[i]? = some o → ∀ e ∈ o.after, Region.binds .any e = true → l.getD e.on false = true := by
  unfold Region.ready at h
  rw [List.mem_filter] at h
  obtain ⟨h1, h2⟩ := h
  simp only [Bool.and_eq_true, Bool.not_eq_true'] at h2
  refine ⟨by simpa using h1, h2.1, ?_⟩
  intro o ho e he hb
  have h3 := h2.2
  rw [ho] at h3
  simp only [Option.map_some, Option.getD_some, Array.all_eq_true'] at h3
  have := h3 e he
  rw [hb] at this
  simpa using this
theorem region_inv {id : Nat} {a : Act} {w : World} (hm : P.follows .mixedOrders = true) (Inv : Array Bool → Act → World → Prop)
    (h0 : Inv (Array.replicate ops.size false) a w.drew)
    (hstep : ∀ l a w, Inv l a w → ∀ i ∈ Region.ready .any ops l, wpOp P ops Q i (fun a' w' => Inv (l.setIfInBounds i true) a' w') a w)
    (hdone : ∀ l a w, Inv l a w → l.size = ops.size → Region.ready .any ops l = [] → Q .normal a w) : (Code.region id ops true).wp P Q a w := by
  refine wp_region_any hm (wpAny_inv Inv hstep hdone _ _ _ _ (by simp) ?_ h0)
  unfold left
  exact Nat.le_trans List.countP_le_length (by simp)
theorem ready_all {l : Array Bool} (hall : ((List.range ops.size).all fun i => ((ops[i]?).map fun o => o.after.all fun e => decide (e.on < i)).getD true) = true) (hs : l.size = ops.size) (hr : Region.ready .any ops l = []) : ∀ i, i < ops.size → l.getD i false = true := by
  have hdown : ∀ (i : Nat) (o : Oper), ops[i]? = some o → ∀ e ∈ o.after, e.on < i := by
    intro i o ho e he
    have hi : i < ops.size := (Array.getElem?_eq_some_iff.1 ho).1
    rw [List.all_eq_true] at hall
    have := hall i (by simpa using hi)
    rw [ho] at this
    simp only [Option.map_some, Option.getD_some, Array.all_eq_true', decide_eq_true_eq] at this
    exact this e he
  intro i
  induction i using Nat.strongRecOn with
  | _ i ih =>
    intro hi
    rcases hb : l.getD i false with _ | _
    · exfalso
      unfold Region.ready at hr
      rw [List.filter_eq_nil_iff] at hr
      apply hr i (by simpa using hi)
      have h1 : l.getD i true = false := by
        have : i < l.size := by omega
        simp [Array.getD, this] at hb ⊢
        exact hb
      rw [h1]
      have ho : ops[i]? = some ops[i] := Array.getElem?_eq_getElem hi
      rw [ho]
      simp only [Bool.not_false, Bool.true_and, Option.map_some, Option.getD_some, Array.all_eq_true']
      intro e he
      rw [ih e.on (hdown i _ ho e he) (by have := hdown i _ ho e he; omega)]
      simp
    · rfl
theorem region_inv_at {id : Nat} {a : Act} {w : World} (hm : P.follows .mixedOrders = true) (Inv : Act → Array Bool → Act → World → Prop)
    (h0 : Inv a (Array.replicate ops.size false) a w.drew)
    (hstep : ∀ l a' w, Inv a l a' w → ∀ i ∈ Region.ready .any ops l, wpOp P ops Q i (fun a'' w' => Inv a (l.setIfInBounds i true) a'' w') a' w)
    (hdone : ∀ l a' w, Inv a l a' w → l.size = ops.size → Region.ready .any ops l = [] → Q .normal a' w) : (Code.region id ops true).wp P Q a w :=
  region_inv hm (Inv a) h0 hstep hdone
end
end Go.Proofs.YthjjcmmonjajhaaDoor
