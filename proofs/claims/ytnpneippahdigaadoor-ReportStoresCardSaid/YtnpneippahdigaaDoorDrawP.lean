/-
  A tenant's stream in plain Lean: words by number, picks. No program in sight.
-/
import Derived.Test.YtnpneippahdigaaDoorSha
namespace Go.Proofs.Drw

def two64 : Nat := 18446744073709551616
/-- the digest that holds the words of number 4 k to 4 k + 3. -/
def blockOf (root : List Nat) (k : Nat) : List Nat := Sha.of (root ++ Sha.be8 k)
/-- the number of bytes, the greatest first. -/
def num8 (l : List Nat) : Nat := l.foldl (fun u x => (u * 256 % 18446744073709551616) ||| x) 0
def wordN (root : List Nat) (n : Nat) : Nat := num8 (((blockOf root (n / 4)).drop (n % 4 * 8)).take 8)
/-- how many of the greatest words are left out. -/
def out (n : Nat) : Nat := (18446744073709551615 % n + 1) % n
/-- a pick: with f words more at most, w the last one, t taken. -/
def pickTo (root : List Nat) (n : Nat) : Nat → Nat → Nat → Nat × Nat
  | 0, w, t => (w % n, t)
  | f + 1, w, t => if w ≤ 18446744073709551615 - out n then (w % n, t) else pickTo root n f (wordN root t) (t + 1)
def pick (root : List Nat) (n t : Nat) : Nat × Nat := pickTo root n 63 (wordN root t) (t + 1)

theorem num8_snoc (l : List Nat) (x : Nat) : num8 (l ++ [x]) = (num8 l * 256 % 18446744073709551616) ||| x := by simp [num8, List.foldl_append]
theorem or_lt (a b : Nat) (ha : a < 18446744073709551616) (hb : b < 18446744073709551616) : a ||| b < 18446744073709551616 := Nat.or_lt_two_pow (n := 64) ha hb
theorem num8_lt (l : List Nat) (h : ∀ x ∈ l, x < 256) : num8 l < 18446744073709551616 := by
  unfold num8
  suffices H : ∀ u, u < 18446744073709551616 → l.foldl (fun u x => (u * 256 % 18446744073709551616) ||| x) u < 18446744073709551616 from H 0 (by decide)
  induction l with
  | nil => intro u hu; exact hu
  | cons x l ih =>
    intro u hu
    exact ih (fun y hy => h y (by simp [hy])) _ (or_lt _ _ (Nat.mod_lt _ (by decide)) (by have := h x (by simp); omega))
theorem pickTo_lt (root : List Nat) (n : Nat) (hn : 0 < n) : ∀ f w t, (pickTo root n f w t).1 < n ∧ t ≤ (pickTo root n f w t).2 ∧ (pickTo root n f w t).2 ≤ t + f := by
  intro f
  induction f with
  | zero => intro w t; exact ⟨Nat.mod_lt _ hn, Nat.le_refl _, Nat.le_refl _⟩
  | succ f ih =>
    intro w t
    unfold pickTo
    split
    · exact ⟨Nat.mod_lt _ hn, Nat.le_refl _, by simp⟩
    · obtain ⟨h1, h2, h3⟩ := ih (wordN root t) (t + 1)
      exact ⟨h1, by omega, by omega⟩
end Go.Proofs.Drw
