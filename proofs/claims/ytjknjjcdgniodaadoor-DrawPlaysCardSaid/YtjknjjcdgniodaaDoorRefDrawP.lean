/-
  When a word is taken: two ways of saying it. No program in sight.
-/
import Derived.Test.YtjknjjcdgniodaaDoorDrawP
namespace Go.Proofs.Drw

theorem out_eq (n : Nat) : out n = 18446744073709551616 % n := by
  unfold out
  rw [← Nat.add_mod_mod, Nat.mod_add_mod, Nat.add_mod_mod]
/-- a word is below the greatest multiple if the words from its own multiple on are there. -/
theorem accept {k x : Nat} (hk : 2 ≤ k) (hk2 : k ≤ 9223372036854775807) : (x ≤ 18446744073709551615 - out k) ↔ x - x % k + (k - 1) < 18446744073709551616 := by
  rw [out_eq]
  obtain ⟨q, hq⟩ : ∃ q, 18446744073709551616 / k = q := ⟨_, rfl⟩
  obtain ⟨o, ho⟩ : ∃ o, 18446744073709551616 % k = o := ⟨_, rfl⟩
  have h1 : k * q + o = 18446744073709551616 := by rw [← hq, ← ho]; exact Nat.div_add_mod _ _
  have hol : o < k := by rw [← ho]; exact Nat.mod_lt _ (by omega)
  obtain ⟨p, hp⟩ : ∃ p, x / k = p := ⟨_, rfl⟩
  obtain ⟨r, hr⟩ : ∃ r, x % k = r := ⟨_, rfl⟩
  have h2 : k * p + r = x := by rw [← hp, ← hr]; exact Nat.div_add_mod _ _
  have hrl : r < k := by rw [← hr]; exact Nat.mod_lt _ (by omega)
  rw [ho, hr]
  clear hq hp hr ho
  obtain ⟨A, hA⟩ : ∃ A, k * p = A := ⟨_, rfl⟩
  obtain ⟨B, hB⟩ : ∃ B, k * q = B := ⟨_, rfl⟩
  have hAB : (p < q → A + k ≤ B) ∧ (q ≤ p → B ≤ A) := by
    constructor
    · intro h; rw [← hA, ← hB, ← Nat.mul_succ]; exact Nat.mul_le_mul_left k h
    · intro h; rw [← hA, ← hB]; exact Nat.mul_le_mul_left k h
  rw [hA] at h2
  rw [hB] at h1
  clear hA hB
  rcases Nat.lt_or_ge p q with h | h
  · have := hAB.1 h
    clear hAB
    constructor <;> intro _ <;> omega
  · have := hAB.2 h
    clear hAB
    constructor <;> intro _ <;> omega
end Go.Proofs.Drw
