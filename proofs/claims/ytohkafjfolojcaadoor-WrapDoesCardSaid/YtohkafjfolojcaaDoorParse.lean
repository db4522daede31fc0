/- wrap.Parse computes the plain function 'parseN'. -/
import Derived.Test.YtohkafjfolojcaaDoorProg
import Derived.Test.YtohkafjfolojcaaDoorWrapDefs
import Derived.WalkKit
import Derived.WalkSpells
import Derived.WalkLawsBesides
import Derived.Laws.RangeAny
namespace Go.Proofs.YtohkafjfolojcaaDoor
open Go.RowKit

/-- The rune at a place, and how far it goes. -/
theorem decode_byte (s : ByteArray) (i : Nat) (h : i < s.size) : (byteAt s i < 128 ∧ Utf8.decode s i = ((s[i]'h).toNat, 1)) ∨ (128 ≤ byteAt s i ∧ 128 ≤ (Utf8.decode s i).1) := by
  rw [byteAt_of s i h]
  by_cases ha : (s[i]'h).toNat < 128
  · exact .inl ⟨by omega, decode_ascii s i h ha⟩
  · exact .inr ⟨by omega, (decode_high s i h (by omega)).1⟩

theorem div10 (x : Int) (h : 0 ≤ x) : Int.tdiv x 10 = x / 10 := Int.tdiv_eq_ediv_of_nonneg h

set_option maxHeartbeats 1000000 in
set_option maxRecDepth 1000000 in
theorem parse_loop (s : ByteArray) (w : World) (hs : s.size ≤ 9223372036854775807) (h0 : 0 < s.size) (hz : ¬ (byteAt s 0 = 48 ∧ 1 < s.size)) :
    Calls Tryd.prog 27 #[.string s] w fun e w' => e = .returned (.tuple #[.int .i64 (pDig s s.size 0 0).1, .bool (pDig s s.size 0 0).2]) ∧ Below w.heap.size w w' := by
  have he := isEmpty_false h0
  by_cases hb : byteAt s 0 = 48
  all_goals
    rw [byteAt_of s 0 h0] at hb hz
    have h1 : (s[0].toNat : Int) = 48 → (s.size : Int) ≤ 1 := fun h => by omega
    go_enter Tryd.func27, Tryd.ntmps27
    go_wp2
    clear hb hz h1
    go_loopw [4] (fun n w' => ∃ (pos k : Nat) (acc : Int), w' = w.iter s pos ∧ n = .int .i64 acc ∧ 0 ≤ acc ∧ acc ≤ 9223372036854775807 ∧ pDig s k pos acc = pDig s s.size 0 0 ∧ s.size ≤ pos + k) (fun _ w' => s.size - w'.iterPos w.heap.size)
    case atStart => exact ⟨0, s.size, 0, rfl, rfl, by omega, by omega, rfl, by omega⟩
    case round =>
      obtain ⟨pos, k, acc, rfl, rfl, ha0, ha1, hc, hb⟩ := hrel
      by_cases hp : pos < s.size
      · have hnx : ∀ ty, (Instr.next (.pointer (some ⟨w.heap.size, 0, none⟩)) true ty).run Tryd.prog (w.iter s pos) = _ := fun ty => run_next_any w s pos ty hp
        obtain ⟨k, rfl⟩ : ∃ m, k = m + 1 := ⟨k - 1, by omega⟩
        rw [pDig, if_pos hp] at hc
        have hr := byteAt_range s pos
        rcases decode_byte s pos hp with ⟨hlo, hd⟩ | ⟨hlo, hd⟩
        · by_cases hdig : 48 ≤ byteAt s pos ∧ byteAt s pos ≤ 57
          · rw [if_pos hdig] at hc
            by_cases hov : acc > (9223372036854775807 - (byteAt s pos - 48)) / 10
            · rw [if_pos hov] at hc
              rw [byteAt_of s pos hp] at hdig hov hr
              obtain ⟨hd1, hd2⟩ := hdig
              go_wp2
              go_ret2
              exact ⟨by rw [← hc]; rfl, (Below.refl _ _).alloc (Nat.le_refl _) _⟩
            · rw [if_neg hov] at hc
              rw [byteAt_of s pos hp] at hdig hov hr hc
              obtain ⟨hd1, hd2⟩ := hdig
              go_wp2
              go_roundw
              case rel => exact ⟨pos + 1, k, _, rfl, rfl, by omega, by omega, hc, by omega⟩
              case measure => simp; omega
          · rw [if_neg hdig] at hc
            rw [byteAt_of s pos hp] at hdig hr
            by_cases hd1 : (s[pos].toNat : Int) < 48
            · go_wp2
              go_ret2
              exact ⟨by rw [← hc]; rfl, (Below.refl _ _).alloc (Nat.le_refl _) _⟩
            · have hd2 : 57 < (s[pos].toNat : Int) := by omega
              go_wp2
              go_ret2
              exact ⟨by rw [← hc]; rfl, (Below.refl _ _).alloc (Nat.le_refl _) _⟩
        · have hd2 : (57 : Int) < ((Utf8.decode s pos).1 : Int) := by omega
          have hd1 : ¬ ((Utf8.decode s pos).1 : Int) < 48 := by omega
          rw [if_neg (by omega)] at hc
          go_wp2
          go_ret2
          exact ⟨by rw [← hc]; rfl, (Below.refl _ _).alloc (Nat.le_refl _) _⟩
      · have hnx : ∀ ty, (Instr.next (.pointer (some ⟨w.heap.size, 0, none⟩)) true ty).run Tryd.prog (w.iter s pos) = _ := fun ty => run_next_end w s pos ty hp
        rw [pDig_end s k pos acc hp] at hc
        go_wp2

        go_ret2
        exact ⟨by rw [← hc]; rfl, (Below.refl _ _).alloc (Nat.le_refl _) _⟩

set_option maxHeartbeats 1000000 in
set_option maxRecDepth 1000000 in
theorem parse_any (s : ByteArray) (w : World) (hs : s.size ≤ 9223372036854775807) :
    Calls Tryd.prog 27 #[.string s] w fun e w' => e = .returned (.tuple #[.int .i64 (parseN s).1, .bool (parseN s).2]) ∧ Below w.heap.size w w' := by
  by_cases h0 : s.size = 0
  · obtain rfl := eq_empty h0
    go_enter Tryd.func27, Tryd.ntmps27
    go_wp2
    go_ret2
    exact ⟨rfl, Below.refl _ _⟩
  · by_cases hz : byteAt s 0 = 48 ∧ 1 < s.size
    · have hp : parseN s = (0, false) := if_pos (.inr hz)
      rw [hp]
      rw [byteAt_of s 0 (by omega)] at hz
      obtain ⟨hb, h1⟩ := hz
      have he := isEmpty_false (s := s) (by omega)
      have hpos : 0 < s.size := by omega
      have h1' : (1 : Int) < (s.size : Int) := by omega
      clear h0
      go_enter Tryd.func27, Tryd.ntmps27
      go_wp2
      go_ret2
      exact ⟨rfl, Below.refl _ _⟩
    · have hp : parseN s = pDig s s.size 0 0 := if_neg (by omega)
      rw [hp]
      exact parse_loop s w hs (by omega) hz
end Go.Proofs.YtohkafjfolojcaaDoor
