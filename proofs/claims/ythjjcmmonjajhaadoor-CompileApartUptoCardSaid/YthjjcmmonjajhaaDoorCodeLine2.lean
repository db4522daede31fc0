/- A line, by the program and by the document: both codeLine. -/
import Derived.Test.YthjjcmmonjajhaaDoorCodeLine
namespace Go.Proofs.YthjjcmmonjajhaaDoor.C
open Go.RowKit Go.Sort
set_option linter.unusedVariables false
set_option linter.unusedSimpArgs false

def codeLine (place op a n : Int) : ByteArray := lineS (hs (ix op)) (txt place) (nm (ix op)) (txt a) (txt n)
theorem txt_size (n : Int) (h : R n) : (txt n).size ≤ 30 := by
  have := Lib.itoa_length_le n h.1 h.2
  show (Lib.itoa n).toArray.size ≤ 30
  simp only [List.size_toArray]; omega
theorem nm_size (k : Nat) (hk : k < 26) : (nm k).size ≤ 6 := by
  have key : ∀ i : Fin 26, (nm i.val).size ≤ 6 := by decide +kernel
  exact key ⟨k, hk⟩
theorem line_r (place op a n : Int) (hp : R place) (ha : R a) (hn : R n) (s : ByteArray) (hS : codeLine place op a n = s) (w : World) (ht : Tab w) :
    Calls Tryd.prog 17 #[.agg #[.int .i64 op, .int .i64 a, .int .i64 n], .int .i64 place] w fun e w' => e = .returned (.string s) ∧ Below w.heap.size w w' := by
  have hx := ix_lt op
  have z2 := nm_size (ix op) hx
  rcases hs_cases (ix op) hx with e | e | e | e <;> (unfold codeLine at hS; rw [e] at hS)
  · exact line_core place op a n hp ha hn _ rfl _ _ _ _ s rfl rfl rfl rfl (txt_size _ hp) (by omega) (txt_size _ ha) (txt_size _ hn) 0 e 0 0 rfl rfl false false rfl rfl (by decide) (by decide) hS w ht
  · exact line_core place op a n hp ha hn _ rfl _ _ _ _ s rfl rfl rfl rfl (txt_size _ hp) (by omega) (txt_size _ ha) (txt_size _ hn) 1 e 1 0 rfl rfl true false rfl rfl (by decide) (by decide) hS w ht
  · exact line_core place op a n hp ha hn _ rfl _ _ _ _ s rfl rfl rfl rfl (txt_size _ hp) (by omega) (txt_size _ ha) (txt_size _ hn) 2 e 0 2 rfl rfl false true rfl rfl (by decide) (by decide) hS w ht
  · exact line_core place op a n hp ha hn _ rfl _ _ _ _ s rfl rfl rfl rfl (txt_size _ hp) (by omega) (txt_size _ ha) (txt_size _ hn) 3 e 1 2 rfl rfl true true rfl rfl (by decide) (by decide) hS w ht

theorem line_size (place op a n : Int) (hp : R place) (ha : R a) (hn : R n) : (codeLine place op a n).size ≤ 200 := by
  have hx := ix_lt op
  have z2 := nm_size (ix op) hx
  have z1 := txt_size _ hp
  have z3 := txt_size _ ha
  have z4 := txt_size _ hn
  unfold codeLine lineS lineW
  rw [ByteArray.size_append]
  have : (⟨#[10]⟩ : ByteArray).size = 1 := rfl
  rw [this]
  have : ∀ l : List UInt8, (⟨l.toArray⟩ : ByteArray).size = l.length := fun l => by show l.toArray.size = _; simp
  rw [this]
  split <;> split <;> (simp [Lib.join, List.intercalate]; omega)

end Go.Proofs.YthjjcmmonjajhaaDoor.C
