/- Plain laws of TreeEqual: what is the same is one; what has more, or another name, is not the same. -/
import Derived.Test.YtplckmpamekloaaDoorTreeOwn
import Derived.WideShapes
namespace Go.Proofs.YtplckmpamekloaaDoor
open Go.RowKit Go.Sort
set_option linter.unusedVariables false

theorem bytes_eq {a b : ByteArray} (h : (a.toList == b.toList) = true) : a = b := by
  rw [ByteArray.toList_eq, ByteArray.toList_eq] at h
  have h' : a.data.toList = b.data.toList := by simpa using h
  obtain ⟨a⟩ := a
  obtain ⟨b⟩ := b
  obtain rfl : a = b := Array.toList_inj.1 h'
  rfl
mutual
theorem ET.same_eq : ∀ a b : ET, ET.same a b = true → a = b
  | .mk o n s l, .mk o' n' s' l', h => by
    simp only [ET.same, Bool.and_eq_true] at h
    obtain ⟨h1, h2, h3, h4⟩ := h
    rw [eq_of_beq h1, eq_of_beq h2, bytes_eq h3, ET.sameL_one l l' h4]
theorem ET.sameL_one : ∀ l r : List ET, ET.sameL l r = true → l = r
  | [], [], _ => rfl
  | [], _ :: _, h => by simp [ET.sameL] at h
  | _ :: _, [], h => by simp [ET.sameL] at h
  | a :: l, b :: r, h => by
    simp only [ET.sameL, Bool.and_eq_true] at h
    rw [ET.same_eq a b h.1, ET.sameL_one l r h.2]
end
mutual
theorem ST.same_eq : ∀ a b : ST, ST.same a b = true → a = b
  | .mk o n s l b e, .mk o' n' s' l' b' e', h => by
    simp only [ST.same, Bool.and_eq_true] at h
    obtain ⟨h1, h2, h3, h4, h5, h6⟩ := h
    rw [eq_of_beq h1, bytes_eq h2, eq_of_beq h3, ET.sameL_one l l' h4, ST.sameL_one b b' h5, ST.sameL_one e e' h6]
theorem ST.sameL_one : ∀ l r : List ST, ST.sameL l r = true → l = r
  | [], [], _ => rfl
  | [], _ :: _, h => by simp [ST.sameL] at h
  | _ :: _, [], h => by simp [ST.sameL] at h
  | a :: l, b :: r, h => by
    simp only [ST.sameL, Bool.and_eq_true] at h
    rw [ST.same_eq a b h.1, ST.sameL_one l r h.2]
end
theorem eqS_one {l r : List ByteArray} (h : eqS l r = true) : l = r := by
  unfold eqS at h
  simp only [Bool.and_eq_true, decide_eq_true_eq, allB_all] at h
  obtain ⟨h1, h2⟩ := h
  refine List.ext_getElem h1 (fun i hi hi' => ?_)
  have := bytes_eq (h2 i hi)
  simpa [List.getD_eq_getElem?_getD, List.getElem?_eq_getElem hi, List.getElem?_eq_getElem hi'] using this
theorem FT.same_eq {a b : FT} (h : FT.same a b = true) : a = b := by
  unfold FT.same at h
  simp only [Bool.and_eq_true] at h
  obtain ⟨n, p, l⟩ := a
  obtain ⟨n', p', l'⟩ := b
  dsimp only at h
  rw [bytes_eq h.1, eqS_one h.2.1, ST.sameL_one _ _ h.2.2]
theorem FT.sameL_one : ∀ l r : List FT, FT.sameL l r = true → l = r
  | [], [], _ => rfl
  | [], _ :: _, h => by simp [FT.sameL] at h
  | _ :: _, [], h => by simp [FT.sameL] at h
  | a :: l, b :: r, h => by
    simp only [FT.sameL, Bool.and_eq_true] at h
    rw [FT.same_eq h.1, FT.sameL_one l r h.2]
theorem PT.same_one {p q : PT} (h : PT.same p q = true) : p = q := by
  unfold PT.same at h
  simp only [Bool.and_eq_true] at h
  obtain ⟨f, m⟩ := p
  obtain ⟨f', m'⟩ := q
  dsimp only at h
  rw [FT.sameL_one _ _ h.1, ST.sameL_one _ _ h.2]
theorem more_not (p : PT) (s : ST) : PT.same p ⟨p.funcs, p.main ++ [s]⟩ = false := by
  cases h : PT.same p ⟨p.funcs, p.main ++ [s]⟩ with
  | false => rfl
  | true =>
    have := congrArg (fun p => p.main.length) (PT.same_one h)
    simp at this
theorem more_not' (p : PT) (s : ST) : PT.same ⟨p.funcs, p.main ++ [s]⟩ p = false := by rw [PT.same_symm]; exact more_not p s
/-- The first function by another name. -/
def renamed (l : List FT) (x : ByteArray) : List FT := match l with
  | [] => []
  | f :: r => ⟨f.name ++ x, f.params, f.body⟩ :: r
theorem renamed_not (p : PT) (hp : 0 < p.funcs.length) (x : ByteArray) (hx : 0 < x.size) : PT.same p ⟨renamed p.funcs x, p.main⟩ = false := by
  cases h : PT.same p ⟨renamed p.funcs x, p.main⟩ with
  | false => rfl
  | true =>
    exfalso
    have h1 := congrArg PT.funcs (PT.same_one h)
    dsimp only at h1
    cases hf : p.funcs with
    | nil => rw [hf] at hp; cases hp
    | cons f r =>
      rw [hf] at h1
      simp only [renamed, List.cons.injEq, and_true] at h1
      have h2 := congrArg (fun f => f.name.size) h1
      dsimp only at h2
      rw [ByteArray.size_append] at h2
      omega
theorem renamed_length (l : List FT) (x : ByteArray) : (renamed l x).length = l.length := by cases l <;> rfl
theorem renamed_getD (l : List FT) (x : ByteArray) (i : Nat) (hi : i < l.length) : ((renamed l x).getD i default).name = (if i = 0 then (l.getD i default).name ++ x else (l.getD i default).name) ∧ ((renamed l x).getD i default).params = (l.getD i default).params ∧ ((renamed l x).getD i default).body = (l.getD i default).body := by
  cases l with
  | nil => cases hi
  | cons f r =>
    cases i with
    | zero => exact ⟨rfl, rfl, rfl⟩
    | succ i => exact ⟨rfl, rfl, rfl⟩
theorem RowF.rename {w : World} {g0 : Nat} {l : List FT} {f g : Nat → Value} (h : RowF w g0 l f g) (hl : 0 < l.length) (x : ByteArray) : RowF (w.setCell ⟨g0, 0, none⟩ (.string ((l.getD 0 default).name ++ x))) g0 (renamed l x) f g := by
  obtain ⟨cur, hk, hj⟩ := h
  refine ⟨_, heap_set hk 0 _, fun j hj' => ?_⟩
  rw [renamed_length] at hj'
  have hc := hj j hj'
  have hq : j / 3 < l.length := by omega
  obtain ⟨r1, r2, r3⟩ := renamed_getD l x (j / 3) hq
  by_cases e : j = 0
  · subst e
    rw [Array.getElem?_setIfInBounds_self_of_lt (Array.getElem?_eq_some_iff.1 hc).1]
    unfold rowF
    simp only [Nat.zero_div, Nat.zero_mod] at r1 ⊢
    rw [r1]; rfl
  · rw [Array.getElem?_setIfInBounds_ne (fun e' => e e'.symm), hc]
    unfold rowF
    have h3 : j % 3 = 0 ∨ j % 3 = 1 ∨ j % 3 = 2 := by omega
    rcases h3 with h3 | h3 | h3 <;> rw [h3]
    · show some (Value.string _) = some (Value.string _)
      rw [r1, if_neg (by omega)]
    · rfl
    · rfl
theorem renamed_fsl {w W : World} {a : Option Addr} {n cap : Nat} {l : List FT} {b off : Nat} {f g : Nat → Value} (hf : FRow w a n cap l b off f g) (hb : Below w.heap.size w W) {fc gf : Nat} (hle : n ≤ fc) (hmax : fc ≤ maxLen) (x : ByteArray) (hr : RowF W gf (renamed l x) f g) : FSl W (.slice (some ⟨gf, 0, none⟩) n fc) (renamed l x) := by
  have hl := hf.len
  subst hl
  have hL := renamed_length l x
  have key := RowF.fsl (w := W) (g0 := gf) (cap := fc) (l := renamed l x) (f := f) (g := g) (fun _ => hr) (a := some ⟨gf, 0, none⟩) (fun _ => rfl) (by omega) hmax
    (fun i hi => by rw [hL] at hi; rw [(renamed_getD l x i hi).2.1]; exact (hf.ts i hi).stay hb) (fun i hi => by rw [hL] at hi; rw [(renamed_getD l x i hi).2.2]; exact (hf.bs i hi).stay hb)
  rwa [hL] at key
end Go.Proofs.YtplckmpamekloaaDoor
