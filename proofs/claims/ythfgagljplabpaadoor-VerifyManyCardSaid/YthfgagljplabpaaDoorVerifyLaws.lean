/- The plain laws of VerifyDepths, VerifyJumps, VerifyMany. -/
import Derived.Test.YthfgagljplabpaaDoorVerifyKit
import Derived.IntWalk
namespace Go.Proofs.YthfgagljplabpaaDoor
open Go.RowKit Go.Sort
set_option linter.unusedVariables false

theorem w64 (x : Int) (h0 : -9223372036854775808 ≤ x) (h1 : x ≤ 9223372036854775807) : wrap64 x = x := IntWalk.wrap64_in x ⟨h0, h1⟩
def pushI : VI := ⟨1, 0, 0⟩
def retI : VI := ⟨18, 0, 0⟩
def pushes (m : Nat) : List VI := List.replicate m pushI
theorem pushes_next (m : Nat) : pushes m ++ [pushI] = pushes (m + 1) := by unfold pushes; rw [List.replicate_succ']
theorem pushes_length (m : Nat) : (pushes m).length = m := by simp [pushes]

def depL (op : Int) (m : Nat) : List VI := pushes m ++ [⟨op, 1, 1⟩, pushI, retI]
def depF (op : Int) (m : Nat) : List VF := [⟨ByteArray.empty, 0, 2, 2, depL op m⟩, ⟨ByteArray.empty, 3, 3, 0, [pushI, retI]⟩]
def takesD (op : Int) : Int := if op = 17 then 3 else tk (ix op)
theorem dep_known : ∀ op : Fin 26, ∀ m : Fin 6, op.val ≠ 15 → op.val ≠ 16 → codeV (depF op.val m.val) = (decide (1 ≤ (op.val : Int) ∧ (op.val : Int) ≤ 25) && decide (takesD op.val ≤ m.val)) := by decide +kernel
theorem depL_length (op : Int) (m : Nat) : (depL op m).length = m + 3 := by simp [depL, pushes]
theorem depL_push (op : Int) (m j : Nat) (h : j < m) : (depL op m).getD j default = pushI := by
  unfold depL pushes
  rw [List.getD_eq_getElem?_getD, List.getElem?_append_left (by simpa using h), List.getElem?_replicate, if_pos h]; rfl
theorem depL_op (op : Int) (m : Nat) : (depL op m).getD m default = ⟨op, 1, 1⟩ := by
  unfold depL pushes
  rw [List.getD_eq_getElem?_getD, List.getElem?_append_right (by simp)]; simp
theorem none_stops (op : Int) (m : Nat) (hm : m ≤ 5) (fs : List VF) (f : VF) (hf : f.l = depL op m) (key : operandsB fs.length f ⟨op, 1, 1⟩ = false) :
    ∀ d j : Nat, j + d = m → ∀ (dep : Nat → Option Int), dep j = some (j : Int) → (∀ k, j < k → dep k = none) → ∀ fuel, d < fuel → loopB fs f fuel ⟨dep, [j]⟩ = false := by
  intro d
  induction d with
  | zero =>
    intro j hj dep h1 h2 fuel hfu
    obtain ⟨n, rfl⟩ : ∃ n, fuel = n + 1 := ⟨fuel - 1, by omega⟩
    obtain rfl : j = m := by omega
    have : placeB fs f ⟨dep, []⟩ j = none := by
      unfold placeB
      rw [hf, depL_op]
      dsimp only
      rw [key]; rfl
    simp only [loopB, this]
  | succ d ih =>
    intro j hj dep h1 h2 fuel hfu
    obtain ⟨n, rfl⟩ : ∃ n, fuel = n + 1 := ⟨fuel - 1, by omega⟩
    have hw : wrap64 (j : Int) = j := w64 _ (by omega) (by omega)
    have hw1 : wrap64 ((j : Int) + 1) = j + 1 := w64 _ (by omega) (by omega)
    have ho : operandsB fs.length f pushI = true := rfl
    have hr : restV fs pushI (j : Int) = j := by
      show wrap64 ((j : Int) - 0) = j
      rw [Int.sub_zero, hw]
    have hl : lv (ix pushI.op) = 1 := by decide
    have hi : inB ((j : Int) + 1) 0 (m + 3 : Nat) = true := by unfold inB; simp; omega
    have : placeB fs f ⟨dep, []⟩ j = some ⟨fun k => if k = j + 1 then some ((j : Int) + 1) else dep k, [j + 1]⟩ := by
      unfold placeB
      rw [hf, depL_push op m j (by omega)]
      dsimp only
      rw [ho, if_pos rfl, h1, Option.getD_some, hr, if_neg (by omega), hl, hw1, if_neg (by decide), if_neg (by decide), if_neg (by decide), depL_length]
      unfold VS.reach
      rw [if_pos hi]
      have e : ((j : Int) + 1).toNat = j + 1 := by omega
      dsimp only
      rw [e, h2 (j + 1) (by omega)]
      rfl
    simp only [loopB, this]
    exact ih (j + 1) (by omega) _ (by simp) (fun k hk => by rw [if_neg (by omega)]; exact h2 k (by omega)) n (by omega)
/-- An op that is none stops the look where it stands. -/
theorem dep_unknown (op : Int) (h : ¬ (1 ≤ op ∧ op ≤ 25)) (m : Nat) (hm : m ≤ 5) : codeV (depF op m) = false := by
  have key : ∀ nf f, operandsB nf f ⟨op, 1, 1⟩ = false := by
    intro nf f
    unfold operandsB
    dsimp only
    rw [if_neg (by omega), if_neg (by omega), if_neg (by omega), if_neg (by omega), if_neg (by omega), decide_eq_false h]
  have hr : rightV (depF op m) ⟨ByteArray.empty, 0, 2, 2, depL op m⟩ = false := by
    unfold rightV
    have hs : startV.reach (depL op m).length 0 0 = some ⟨fun k => if k = 0 then some 0 else none, [0]⟩ := by
      unfold VS.reach startV
      have hi : inB 0 0 ((depL op m).length : Int) = true := by rw [depL_length]; unfold inB; simp; omega
      rw [if_pos hi]
      rfl
    dsimp only
    rw [hs]
    dsimp only
    rw [none_stops op m hm _ _ rfl (key _ _) m 0 (by omega) _ rfl (fun k hk => by rw [if_neg (by omega)]) _ (by rw [depL_length]; omega), Bool.and_false]
  unfold codeV
  have : (depF op m).any (fun f => !rightV (depF op m) f) = true := by
    refine List.any_eq_true.2 ⟨⟨ByteArray.empty, 0, 2, 2, depL op m⟩, List.mem_cons_self .., ?_⟩
    rw [hr]; rfl
  rw [this]
  simp
theorem dep_law (op : Int) (h15 : op ≠ 15) (h16 : op ≠ 16) (m : Nat) (hm : m ≤ 5) : codeV (depF op m) = (decide (1 ≤ op ∧ op ≤ 25) && decide (takesD op ≤ m)) := by
  by_cases h : 1 ≤ op ∧ op ≤ 25
  · obtain ⟨k, rfl⟩ : ∃ k : Nat, op = k := ⟨op.toNat, by omega⟩
    exact dep_known ⟨k, by omega⟩ ⟨m, by omega⟩ (by simpa using fun e => h15 (by omega)) (by simpa using fun e => h16 (by omega))
  · rw [dep_unknown op h m hm, decide_eq_false h]; rfl

def jumpL (t0 : Int) (m : Nat) : List VI := [pushI, ⟨16, t0, 0⟩] ++ pushes m ++ [pushI, retI]
def jumpF (t0 : Int) (m : Nat) : List VF := [⟨ByteArray.empty, 0, 2, 1, jumpL t0 m⟩]
theorem jump_law' : ∀ m : Fin 11, ∀ t0 : Fin 14, t0.val < m.val + 4 → codeV (jumpF t0.val m.val) = (decide ((t0.val : Int) = 0) || decide ((t0.val : Int) = 2)) := by decide +kernel
theorem jump_law (t0 m : Nat) (hm : m ≤ 10) (ht : t0 < m + 4) : codeV (jumpF t0 m) = (decide ((t0 : Int) = 0) || decide ((t0 : Int) = 2)) := jump_law' ⟨m, by omega⟩ ⟨t0, by omega⟩ ht

def oneF (p v a : Int) : VF := ⟨ByteArray.empty, p, v, a, [pushI, retI]⟩
def manyF (n : Nat) (p v a : Int) : List VF := oneF 0 0 0 :: List.replicate n (oneF p v a)
theorem manyF_next (n : Nat) (p v a : Int) : manyF n p v a ++ [oneF p v a] = manyF (n + 1) p v a := by unfold manyF; rw [List.cons_append, List.replicate_succ']
theorem manyF_length (n : Nat) (p v a : Int) : (manyF n p v a).length = n + 1 := by simp [manyF]
theorem one_right (fs : List VF) (p v a : Int) : rightV fs (oneF p v a) = headV (oneF p v a) := by
  unfold rightV
  generalize headV (oneF p v a) = b
  cases b with
  | false => rfl
  | true => kernel_rfl
theorem many_law (n : Nat) (p v a : Int) : codeV (manyF n p v a) = (decide (n ≤ 32) && (decide (n = 0) || headV (oneF p v a))) := by
  unfold codeV
  have h1 : inB (manyF n p v a).length 1 34 = decide (n ≤ 32) := by
    rw [manyF_length]; unfold inB
    by_cases h : n ≤ 32
    · rw [decide_eq_true h, decide_eq_true (by omega), decide_eq_true (by omega)]; rfl
    · rw [decide_eq_false h, decide_eq_false (show ¬ ((n + 1 : Nat) : Int) < 34 by omega), Bool.and_false]
  have h2 : ((manyF n p v a).getD 0 default).params = 0 := rfl
  have h3 : ∀ gs, (manyF n p v a).any (fun f => !rightV gs f) = !(decide (n = 0) || headV (oneF p v a)) := by
    intro gs
    unfold manyF
    rw [List.any_cons, one_right]
    have h0 : headV (oneF 0 0 0) = true := by decide
    rw [h0]
    cases n with
    | zero => simp
    | succ n =>
      rw [List.any_replicate, if_neg (by omega), one_right]
      simp
  rw [h1, h2, h3]
  simp
end Go.Proofs.YthfgagljplabpaaDoor
