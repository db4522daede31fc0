/- CompileDeep, for any two numbers. -/
import Derived.Test.YthjjcmmonjajhaaDoorDeepWalk
namespace Go.Proofs.YthjjcmmonjajhaaDoor
open Go.RowKit Go.Sort
set_option linter.unusedVariables false

theorem i64_and65535 (n : Int) : Go.bits .and .i64 n 65535 = n % 65536 := by
  have h127 : (BitVec.ofInt 64 65535).toNat = 2 ^ 16 - 1 := by decide
  have key : (BitVec.ofInt 64 n &&& BitVec.ofInt 64 65535).toNat = (n % ((2 ^ 64 : Nat) : Int)).toNat % 2 ^ 16 := by
    rw [BitVec.toNat_and, BitVec.toNat_ofInt, h127, Nat.and_two_pow_sub_one_eq_mod]
  show IntKind.i64.wrap ((BitVec.ofInt 64 n &&& BitVec.ofInt 64 65535).toNat : Nat) = n % 65536
  rw [key, IntKind.wrap_i64]
  omega
theorem bits_16 (n : Int) : ∃ x : Int, Go.bits .and .i64 n 65535 = x ∧ 0 ≤ x ∧ x ≤ 65535 := ⟨_, rfl, by rw [i64_and65535]; omega⟩
theorem i64_and62 (n : Int) : Go.bits .and .i64 n 4611686018427387903 = n % 4611686018427387904 := by
  have h127 : (BitVec.ofInt 64 4611686018427387903).toNat = 2 ^ 62 - 1 := by decide
  have key : (BitVec.ofInt 64 n &&& BitVec.ofInt 64 4611686018427387903).toNat = (n % ((2 ^ 64 : Nat) : Int)).toNat % 2 ^ 62 := by
    rw [BitVec.toNat_and, BitVec.toNat_ofInt, h127, Nat.and_two_pow_sub_one_eq_mod]
  show IntKind.i64.wrap ((BitVec.ofInt 64 n &&& BitVec.ofInt 64 4611686018427387903).toNat : Nat) = n % 4611686018427387904
  rw [key, IntKind.wrap_i64]
  omega
theorem bits_62 (n : Int) : ∃ x : Int, Go.bits .and .i64 n 4611686018427387903 = x ∧ 0 ≤ x ∧ x ≤ 4611686018427387903 := ⟨_, rfl, by rw [i64_and62]; omega⟩
theorem deep_walk (ds ns : Int) (w : World) (ht : ∃ mb mn, TabAll w mb mn) :
    Calls Tryd.prog 6 #[.int .i64 ds, .int .i64 ns] w fun e w' => e = .returned (.bool true) ∧ Below w.heap.size w w' := by
  obtain ⟨mb, mn, ht⟩ := ht
  obtain ⟨x, hx, x0, x1⟩ := bits_16 ds
  obtain ⟨y, hy, y0, y1⟩ := bits_62 ns
  obtain ⟨m, hm⟩ : ∃ m : Nat, x % 61 = (m : Int) := ⟨(x % 61).toNat, by omega⟩
  exact deep_core ds ns x y hx x0 m hm (by omega) hy y0 y1 mb mn w ht
end Go.Proofs.YthjjcmmonjajhaaDoor
