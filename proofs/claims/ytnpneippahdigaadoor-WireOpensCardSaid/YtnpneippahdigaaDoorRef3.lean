/-
  The reference's words, in plain Lean: roots of primes; they are SHA-256's. No program in sight.
-/
import Derived.Test.YtnpneippahdigaaDoorSha
namespace Go.Proofs.YtnpneippahdigaaDoor

namespace Ref3
/-- is the k-th power of r at most p times 2^(32 k)? -/
def below (r p k : Nat) : Bool :=
  if k = 2 then decide (r * r / 18446744073709551616 < p) || (decide (r * r / 18446744073709551616 = p) && decide (r * r % 18446744073709551616 = 0))
  else decide ((r * r % 18446744073709551616 * r / 18446744073709551616 + r * r / 18446744073709551616 * r % 18446744073709551616) / 18446744073709551616 = 0)
    && (decide ((r * r % 18446744073709551616 * r / 18446744073709551616 + r * r / 18446744073709551616 * r % 18446744073709551616) % 18446744073709551616 < p * 4294967296)
      || (decide ((r * r % 18446744073709551616 * r / 18446744073709551616 + r * r / 18446744073709551616 * r % 18446744073709551616) % 18446744073709551616 = p * 4294967296) && decide (r * r % 18446744073709551616 * r % 18446744073709551616 = 0)))
/-- halves: j rounds. -/
def halves (p k : Nat) : Nat → Nat → Nat
  | 0, lo => lo
  | j + 1, lo => if below (lo + 2 ^ j) p k then halves p k j (lo + 2 ^ j) else halves p k j lo
def frac (p k : Nat) : Nat := halves p k 37 0 % 4294967296
def isP (p : Nat) : Bool := decide (∀ q, q < p → 2 ≤ q → q * q ≤ p → p % q ≠ 0)
def primes : Nat → List Nat
  | 0 => []
  | n + 1 => primes n ++ (if decide (2 ≤ n) && isP n then [n] else [])
def starts (p : Nat) : List Nat := ((primes p).map (frac · 2)).take 8
def turnsOf (p : Nat) : List Nat := (primes p).map (frac · 3)
theorem starts_all : starts 312 = Sha.St.new.ws := by decide +kernel
theorem turns_all : turnsOf 312 = Sha.turns := by decide +kernel
theorem first_all : ∀ p, p < 313 → 64 ≤ (primes p).length → p = 312 := by decide +kernel
theorem all_len : (primes 312).length = 64 := by decide +kernel
end Ref3
end Go.Proofs.YtnpneippahdigaaDoor
