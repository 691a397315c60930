/- Counts and texts in bytes: plain. -/
import Derived.Test.YtaeabdghlkdkjaaPkE
namespace Go.Proofs.Ytaeabdghlkdkjaa
set_option linter.unusedVariables false
open Go.RowKit Go.MapKept

/-- A number in as few bytes as may be. -/
def countOf (n : Nat) : List UInt8 := if n < 128 then [UInt8.ofNat n] else UInt8.ofNat (n % 128 + 128) :: countOf (n / 128)
decreasing_by omega
theorem countOf_small {n : Nat} (h : n < 128) : countOf n = [UInt8.ofNat n] := by rw [countOf, if_pos h]
theorem countOf_big {n : Nat} (h : ¬ n < 128) : countOf n = UInt8.ofNat (n % 128 + 128) :: countOf (n / 128) := by rw [countOf, if_neg h]
theorem countOf_len : ∀ (k n : Nat), n < 128 ^ (k + 1) → (countOf n).length ≤ k + 1
  | 0, n, h => by rw [countOf_small (by simpa using h)]; simp
  | k + 1, n, h => by
    by_cases hn : n < 128
    · rw [countOf_small hn]; simp
    · rw [countOf_big hn, List.length_cons]
      have := countOf_len k (n / 128) (by rw [Nat.div_lt_iff_lt_mul (by omega)]; rw [Nat.pow_succ] at h; exact h)
      omega
theorem countOf_len10 {n : Nat} (h : n < 18446744073709551616) : (countOf n).length ≤ 10 := countOf_len 9 n (Nat.lt_of_lt_of_le h (by decide))
/-- Bytes with their count ahead. -/
def textOf (p : List UInt8) : List UInt8 := countOf p.length ++ p

/-- The number that bytes begin with: the number, how many bytes, a code. -/
def rcFrom : List UInt8 → Nat → Nat → Nat × Nat × Int
  | [], _, _ => (0, 0, 9)
  | c :: b, i, n => if (i = 9 ∧ 1 < c.toNat) ∨ (0 < i ∧ c.toNat = 0) then (0, 0, 10) else if c.toNat < 128 then (n + c.toNat * 2 ^ (7 * i), i + 1, 0) else rcFrom b (i + 1) (n + (c.toNat % 128) * 2 ^ (7 * i))
def readCountOf (b : List UInt8) : Nat × Nat × Int := rcFrom b 0 0
end Go.Proofs.Ytaeabdghlkdkjaa
