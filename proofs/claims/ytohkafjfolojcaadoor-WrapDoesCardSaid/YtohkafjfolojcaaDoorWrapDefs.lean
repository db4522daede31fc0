/- What the functions of the wrap layer compute, as plain functions of numbers and bytes; no program. -/
import Derived.WalkKit
namespace Go.Proofs.YtohkafjfolojcaaDoor
open Go.RowKit

/-- The byte at a place, as a number. -/
def byteAt (s : ByteArray) (i : Nat) : Int := if h : i < s.size then ((s[i]'h).toNat : Int) else 0
/-- What Parse's loop tells from a place on. -/
def pDig (s : ByteArray) : Nat → Nat → Int → Int × Bool
  | 0, _, n => (n, true)
  | k + 1, i, n =>
    if i < s.size then
      if 48 ≤ byteAt s i ∧ byteAt s i ≤ 57 then
        if n > (9223372036854775807 - (byteAt s i - 48)) / 10 then (0, false) else pDig s k (i + 1) (10 * n + (byteAt s i - 48))
      else (0, false)
    else (n, true)
def parseN (s : ByteArray) : Int × Bool :=
  if s.size = 0 ∨ (byteAt s 0 = 48 ∧ 1 < s.size) then (0, false) else pDig s s.size 0 0

theorem byteAt_of (s : ByteArray) (i : Nat) (h : i < s.size) : byteAt s i = ((s[i]'h).toNat : Int) := by simp [byteAt, h]
theorem byteAt_range (s : ByteArray) (i : Nat) : 0 ≤ byteAt s i ∧ byteAt s i ≤ 255 := by
  unfold byteAt; split
  · rename_i h; have := (s[i]'h).toNat_lt; omega
  · omega
theorem isEmpty_false {s : ByteArray} (h : 0 < s.size) : s.toList.isEmpty = false := by
  have hl : s.toList.length = s.size := by rw [ByteArray.toList_eq]; cases s; rfl
  cases e : s.toList with
  | nil => rw [e] at hl; simp at hl; omega
  | cons a l => rfl
theorem eq_empty {s : ByteArray} (h : s.size = 0) : s = ByteArray.empty := by
  cases s with | mk d => have : d = #[] := Array.eq_empty_of_size_eq_zero h; subst this; rfl
theorem pDig_end (s : ByteArray) (k i : Nat) (n : Int) (h : ¬ i < s.size) : pDig s k i n = (n, true) := by
  cases k <;> simp [pDig, h]

def flagI (b : Bool) : Int := if b then 1 else 0
def wNeg (a : Int) : Int := wrap64 (-a)
def wNot (a : Int) : Int := flagI (a == 0)
def wAdd (a b : Int) : Int := wrap64 (a + b)
def wSub (a b : Int) : Int := wrap64 (a - b)
def wMul (a b : Int) : Int := wrap64 (a * b)
def wLess (a b : Int) : Int := flagI (decide (a < b))
def wSame (a b : Int) : Int := flagI (a == b)
def wAnd (a b : Int) : Int := Go.bits .and .i64 a b
def wOr (a b : Int) : Int := Go.bits .or .i64 a b
def wDiv (a b : Int) : Int × Bool := if b = 0 then (0, false) else (wrap64 (Int.tdiv a b), true)
def wMod (a b : Int) : Int × Bool := if b = 0 then (0, false) else (Int.tmod a b, true)
def wDo (op a b : Int) : Int × Bool :=
  if op = 6 then (wNeg a, true) else if op = 7 then (wNot a, true) else if op = 8 then (wAdd a b, true) else if op = 9 then (wSub a b, true)
  else if op = 10 then (wMul a b, true) else if op = 11 then wDiv a b else if op = 12 then wMod a b else if op = 13 then (wLess a b, true)
  else if op = 14 then (wSame a b, true) else if op = 15 then (wAnd a b, true) else if op = 16 then (wOr a b, true) else (0, false)

end Go.Proofs.YtohkafjfolojcaaDoor
