/- Expressions, statements, functions in memory, as trees. -/
import Derived.Test.YthjjcmmonjajhaaDoorTreeName2
namespace Go.Proofs.YthjjcmmonjajhaaDoor
open Go.RowKit Go.Sort
set_option linter.unusedVariables false

/-- An expression: its op, its number, its name, its parts. -/
inductive ET where
  | mk (op n : Int) (name : ByteArray) (l : List ET)
namespace ET
def op : ET → Int | mk o _ _ _ => o
def num : ET → Int | mk _ n _ _ => n
def name : ET → ByteArray | mk _ _ s _ => s
def parts : ET → List ET | mk _ _ _ l => l
end ET
instance : Inhabited ET := ⟨.mk 0 0 ByteArray.empty []⟩
/-- A statement: its op, its name, its number, its expressions, its bodies. -/
inductive ST where
  | mk (op n : Int) (name : ByteArray) (l : List ET) (body els : List ST)
namespace ST
def op : ST → Int | mk o _ _ _ _ _ => o
def num : ST → Int | mk _ n _ _ _ _ => n
def name : ST → ByteArray | mk _ _ s _ _ _ => s
def parts : ST → List ET | mk _ _ _ l _ _ => l
def body : ST → List ST | mk _ _ _ _ b _ => b
def els : ST → List ST | mk _ _ _ _ _ e => e
end ST
instance : Inhabited ST := ⟨.mk 0 0 ByteArray.empty [] [] []⟩
/-- A function: its name, its parameters, its body. -/
structure FT where
  name : ByteArray
  params : List ByteArray
  body : List ST
instance : Inhabited FT := ⟨⟨ByteArray.empty, [], []⟩⟩
/-- A program. -/
structure PT where
  funcs : List FT
  main : List ST

/-- Where a slice begins, as far as it has anything. -/
def At (a : Option Addr) (n : Nat) (b off : Nat) : Prop := 0 < n → a = some ⟨b, off, none⟩
/-- A slice of expressions in memory. -/
inductive ESl (w : World) : Value → List ET → Prop
  | mk (a : Option Addr) (b off cap : Nat) (l : List ET) (f : Nat → Value) : At a l.length b off → l.length ≤ cap → cap ≤ maxLen →
      (∀ i, i < l.length → w.cell? ⟨b, off + i * 4, .none⟩ = .some (.int .i64 (l.getD i default).op) ∧ w.cell? ⟨b, off + i * 4 + 1, .none⟩ = .some (.int .i64 (l.getD i default).num) ∧ w.cell? ⟨b, off + i * 4 + 2, .none⟩ = .some (.string (l.getD i default).name) ∧ w.cell? ⟨b, off + i * 4 + 3, .none⟩ = .some (f i)) →
      (∀ i, i < l.length → ESl w (f i) (l.getD i default).parts) → ESl w (.slice a l.length cap) l
theorem ESl.stay {w w' : World} (hb : Below w.heap.size w w') {v : Value} {l : List ET} (h : ESl w v l) : ESl w' v l := by
  induction h with
  | mk a b off cap l f ha hc hm hcell _ ih =>
    exact .mk a b off cap l f ha hc hm (fun i hi => by
      have hlt : b < w.heap.size := lt_of_cell (hcell i hi).1
      exact ⟨(hb.cell hlt).trans (hcell i hi).1, (hb.cell hlt).trans (hcell i hi).2.1, (hb.cell hlt).trans (hcell i hi).2.2.1, (hb.cell hlt).trans (hcell i hi).2.2.2⟩) ih
/-- A slice of statements in memory. -/
inductive SSl (w : World) : Value → List ST → Prop
  | mk (a : Option Addr) (b off cap : Nat) (l : List ST) (f g h : Nat → Value) : At a l.length b off → l.length ≤ cap → cap ≤ maxLen →
      (∀ i, i < l.length → w.cell? ⟨b, off + i * 6, .none⟩ = .some (.int .i64 (l.getD i default).op) ∧ w.cell? ⟨b, off + i * 6 + 1, .none⟩ = .some (.string (l.getD i default).name) ∧ w.cell? ⟨b, off + i * 6 + 2, .none⟩ = .some (.int .i64 (l.getD i default).num) ∧ w.cell? ⟨b, off + i * 6 + 3, .none⟩ = .some (f i) ∧ w.cell? ⟨b, off + i * 6 + 4, .none⟩ = .some (g i) ∧ w.cell? ⟨b, off + i * 6 + 5, .none⟩ = .some (h i)) →
      (∀ i, i < l.length → ESl w (f i) (l.getD i default).parts) → (∀ i, i < l.length → SSl w (g i) (l.getD i default).body) → (∀ i, i < l.length → SSl w (h i) (l.getD i default).els) → SSl w (.slice a l.length cap) l
theorem SSl.stay {w w' : World} (hb : Below w.heap.size w w') {v : Value} {l : List ST} (h : SSl w v l) : SSl w' v l := by
  induction h with
  | mk a b off cap l f g h ha hc hm hcell he _ _ ih1 ih2 =>
    exact .mk a b off cap l f g h ha hc hm (fun i hi => by
      have hlt : b < w.heap.size := lt_of_cell (hcell i hi).1
      exact ⟨(hb.cell hlt).trans (hcell i hi).1, (hb.cell hlt).trans (hcell i hi).2.1, (hb.cell hlt).trans (hcell i hi).2.2.1, (hb.cell hlt).trans (hcell i hi).2.2.2.1, (hb.cell hlt).trans (hcell i hi).2.2.2.2.1, (hb.cell hlt).trans (hcell i hi).2.2.2.2.2⟩) (fun i hi => (he i hi).stay hb) ih1 ih2
/-- A slice of strings in memory. -/
inductive TSl (w : World) : Value → List ByteArray → Prop
  | mk (a : Option Addr) (b off cap : Nat) (l : List ByteArray) : At a l.length b off → l.length ≤ cap → cap ≤ maxLen → (∀ i, i < l.length → w.cell? ⟨b, off + i, .none⟩ = .some (.string (l.getD i ByteArray.empty))) → TSl w (.slice a l.length cap) l
theorem TSl.stay {w w' : World} (hb : Below w.heap.size w w') {v : Value} {l : List ByteArray} (h : TSl w v l) : TSl w' v l := by
  cases h with
  | mk a b off cap l ha hc hm hcell => exact .mk a b off cap l ha hc hm (fun i hi => (hb.cell (lt_of_cell (hcell i hi))).trans (hcell i hi))
/-- A slice of functions in memory. -/
inductive FSl (w : World) : Value → List FT → Prop
  | mk (a : Option Addr) (b off cap : Nat) (l : List FT) (f g : Nat → Value) : At a l.length b off → l.length ≤ cap → cap ≤ maxLen →
      (∀ i, i < l.length → w.cell? ⟨b, off + i * 3, .none⟩ = .some (.string (l.getD i default).name) ∧ w.cell? ⟨b, off + i * 3 + 1, .none⟩ = .some (f i) ∧ w.cell? ⟨b, off + i * 3 + 2, .none⟩ = .some (g i)) →
      (∀ i, i < l.length → TSl w (f i) (l.getD i default).params) → (∀ i, i < l.length → SSl w (g i) (l.getD i default).body) → FSl w (.slice a l.length cap) l
theorem FSl.stay {w w' : World} (hb : Below w.heap.size w w') {v : Value} {l : List FT} (h : FSl w v l) : FSl w' v l := by
  cases h with
  | mk a b off cap l f g ha hc hm hcell h1 h2 =>
    exact .mk a b off cap l f g ha hc hm (fun i hi => by
      have hlt : b < w.heap.size := lt_of_cell (hcell i hi).1
      exact ⟨(hb.cell hlt).trans (hcell i hi).1, (hb.cell hlt).trans (hcell i hi).2.1, (hb.cell hlt).trans (hcell i hi).2.2⟩) (fun i hi => (h1 i hi).stay hb) (fun i hi => (h2 i hi).stay hb)
/-- A program in memory. -/
def PR (w : World) (fv mv : Value) (p : PT) : Prop := FSl w fv p.funcs ∧ SSl w mv p.main
theorem PR.stay {w w' : World} (hb : Below w.heap.size w w') {fv mv : Value} {p : PT} (h : PR w fv mv p) : PR w' fv mv p := ⟨h.1.stay hb, h.2.stay hb⟩
end Go.Proofs.YthjjcmmonjajhaaDoor
