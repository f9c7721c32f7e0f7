/-
  Clocks, plainly: a row of counts in short form, and a clock as a function. No program in sight.
-/
import Derived.WalkKit
namespace Go.Proofs.Ord

/-- without the zeros at the end. -/
def trim : List Nat → List Nat
  | [] => []
  | x :: xs => if x = 0 ∧ trim xs = [] then [] else x :: trim xs

theorem getD_trim (xs : List Nat) : ∀ g, (trim xs).getD g 0 = xs.getD g 0 := by
  induction xs with
  | nil => intro g; rfl
  | cons x xs ih =>
    intro g
    unfold trim
    split
    · next h =>
      cases g with
      | zero => simp [h.1]
      | succ g =>
        have := ih g
        rw [h.2] at this
        simpa using this
    · cases g with
      | zero => rfl
      | succ g => simpa using ih g
theorem trim_zeros (xs : List Nat) : (∀ g, xs.getD g 0 = 0) → trim xs = [] := by
  induction xs with
  | nil => intro _; rfl
  | cons x xs ih =>
    intro h
    unfold trim
    rw [if_pos ⟨by simpa using h 0, ih fun g => by simpa using h (g + 1)⟩]
theorem trim_ext (xs : List Nat) : ∀ ys : List Nat, (∀ g, xs.getD g 0 = ys.getD g 0) → trim xs = trim ys := by
  induction xs with
  | nil =>
    intro ys h
    exact (trim_zeros ys fun g => (h g).symm.trans rfl).symm
  | cons x xs ih =>
    intro ys h
    cases ys with
    | nil => exact trim_zeros _ fun g => (h g).trans rfl
    | cons y ys =>
      have e0 : x = y := by simpa using h 0
      have e1 : trim xs = trim ys := ih ys fun g => by simpa using h (g + 1)
      unfold trim
      rw [e0, e1]
theorem trim_nil_iff (xs : List Nat) (h : trim xs = []) (g : Nat) : xs.getD g 0 = 0 := by rw [← getD_trim, h]; rfl
theorem trim_snoc (xs : List Nat) : trim (xs ++ [0]) = trim xs := by
  apply trim_ext
  intro g
  simp only [List.getD_eq_getElem?_getD]
  rcases Nat.lt_or_ge g xs.length with h | h
  · rw [List.getElem?_append_left h]
  · rw [List.getElem?_append_right h, List.getElem?_eq_none h]
    cases hg : ([0] : List Nat)[g - xs.length]? with
    | none => rfl
    | some v =>
      have := List.mem_of_getElem? hg
      simp at this
      simp [this]
theorem trim_full (xs : List Nat) (z : Nat) (hz : z ≠ 0) : trim (xs ++ [z]) = xs ++ [z] := by
  induction xs with
  | nil => simp [trim, hz]
  | cons x xs ih =>
    rw [List.cons_append]
    unfold trim
    rw [ih, if_neg (by simp)]
theorem trim_length (xs : List Nat) : (trim xs).length ≤ xs.length := by
  induction xs with
  | nil => exact Nat.le_refl _
  | cons x xs ih =>
    unfold trim
    split
    · exact Nat.zero_le _
    · simpa using ih
theorem trim_mem (xs : List Nat) : ∀ x ∈ trim xs, x ∈ xs := by
  induction xs with
  | nil => intro x h; exact h
  | cons y xs ih =>
    intro x h
    unfold trim at h
    split at h
    · cases h
    · rcases List.mem_cons.1 h with rfl | h
      · exact List.mem_cons_self
      · exact List.mem_cons_of_mem _ (ih x h)

/-- the greater counts of two rows, ahead of the cut. -/
def joinL (xs ys : List Nat) : List Nat := (List.range (max xs.length ys.length)).map fun g => max (xs.getD g 0) (ys.getD g 0)
theorem joinL_length (xs ys : List Nat) : (joinL xs ys).length = max xs.length ys.length := by simp [joinL]
theorem joinL_get (xs ys : List Nat) (g : Nat) : (joinL xs ys).getD g 0 = max (xs.getD g 0) (ys.getD g 0) := by
  unfold joinL
  rw [List.getD_eq_getElem?_getD, List.getElem?_map]
  rcases Nat.lt_or_ge g (max xs.length ys.length) with h | h
  · rw [List.getElem?_range h]; rfl
  · rw [List.getElem?_eq_none (by simpa using h)]
    have h1 : xs.getD g 0 = 0 := by rw [List.getD_eq_getElem?_getD, List.getElem?_eq_none (by omega)]; rfl
    have h2 : ys.getD g 0 = 0 := by rw [List.getD_eq_getElem?_getD, List.getElem?_eq_none (by omega)]; rfl
    rw [h1, h2]
    rfl
theorem joinL_take (xs ys : List Nat) (i : Nat) (h : i < max xs.length ys.length) : (joinL xs ys).take (i + 1) = (joinL xs ys).take i ++ [max (xs.getD i 0) (ys.getD i 0)] := by
  rw [List.take_succ_eq_append_getElem (by rw [joinL_length]; exact h)]
  congr 2
  have := joinL_get xs ys i
  rwa [List.getD_eq_getElem?_getD, List.getElem?_eq_getElem (by rw [joinL_length]; exact h)] at this

/-- a clock in short form. -/
def short (K : Nat → Nat) : List Nat := trim ((List.range 8).map K)
theorem short_get (K : Nat → Nat) (g : Nat) (h : g < 8) : (short K).getD g 0 = K g := by
  unfold short
  rw [getD_trim, List.getD_eq_getElem?_getD, List.getElem?_map, List.getElem?_range h]
  rfl
theorem short_length (K : Nat → Nat) : (short K).length ≤ 8 := by
  have := trim_length ((List.range 8).map K)
  simpa [short] using this
theorem short_get_high (K : Nat → Nat) (g : Nat) (h : 8 ≤ g) : (short K).getD g 0 = 0 := by
  rw [List.getD_eq_getElem?_getD, List.getElem?_eq_none (Nat.le_trans (short_length K) h)]
  rfl
theorem short_mem (K : Nat → Nat) (B : Nat) (h : ∀ g, g < 8 → K g ≤ B) : ∀ x ∈ short K, x ≤ B := by
  intro x hx
  obtain ⟨g, hg, rfl⟩ := List.mem_map.1 (trim_mem _ x hx)
  exact h g (List.mem_range.1 hg)
/-- the greater counts of two clocks. -/
def join (K L : Nat → Nat) : Nat → Nat := fun g => max (K g) (L g)
theorem trim_join (K L : Nat → Nat) : trim (joinL (short K) (short L)) = short (join K L) := by
  unfold short
  apply trim_ext
  intro g
  rw [joinL_get, List.getD_eq_getElem?_getD (l := (List.range 8).map (join K L)), List.getElem?_map]
  rcases Nat.lt_or_ge g 8 with h | h
  · rw [List.getElem?_range h]
    have h1 := short_get K g h
    have h2 := short_get L g h
    unfold short at h1 h2
    rw [h1, h2]
    rfl
  · rw [List.getElem?_eq_none (by simpa using h)]
    have h1 := short_get_high K g h
    have h2 := short_get_high L g h
    unfold short at h1 h2
    rw [h1, h2]
    rfl
/-- a clock with one count alone. -/
def single (g n : Nat) : Nat → Nat := fun k => if k = g then n else 0
theorem short_single (g n : Nat) (hg : g < 8) (hn : n ≠ 0) : short (single g n) = List.replicate g 0 ++ [n] := by
  rw [← trim_full (List.replicate g 0) n hn]
  unfold short
  apply trim_ext
  intro k
  rw [List.getD_eq_getElem?_getD, List.getElem?_map, List.getD_eq_getElem?_getD]
  rcases Nat.lt_trichotomy k g with h | rfl | h
  · rw [List.getElem?_range (by omega), List.getElem?_append_left (by simpa using h), List.getElem?_replicate, if_pos h]
    simp [single]; omega
  · rw [List.getElem?_range hg, List.getElem?_append_right (by simp)]
    simp [single]
  · rw [List.getElem?_eq_none (l := List.replicate g 0 ++ [n]) (by simp; omega)]
    rcases Nat.lt_or_ge k 8 with h8 | h8
    · rw [List.getElem?_range h8]; simp [single]; omega
    · rw [List.getElem?_eq_none (by simpa using h8)]; rfl
theorem short_zero : short (fun _ => 0) = [] := by decide
end Go.Proofs.Ord
