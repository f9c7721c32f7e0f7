/-
  Frames and requests in plain Lean: their bytes, and what bytes are read as. No program in sight.
-/
import Derived.Test.YtnpneippahdigaaDoorDrawP
import Derived.Test.YtnpneippahdigaaDoorSum2
namespace Go.Proofs.Wr

def two64 : Nat := 18446744073709551616
/-- a whole number as 64 bits. -/
def u64 (n : Int) : Nat := (n % 18446744073709551616).toNat
/-- 64 bits as a whole number. -/
def i64 (u : Nat) : Int := if u < 9223372036854775808 then (u : Int) else (u : Int) - 18446744073709551616
/-- a byte of a whole number. -/
def u8 (n : Int) : Nat := (n % 256).toNat
theorem u8_lt (n : Int) : u8 n < 256 := by unfold u8; omega
theorem u64_lt (n : Int) : u64 n < 18446744073709551616 := by unfold u64; omega
theorem u8_nat (n : Nat) (h : n < 256) : u8 (n : Int) = n := by unfold u8; omega
theorem u64_nat (n : Nat) (h : n < 18446744073709551616) : u64 (n : Int) = n := by unfold u64; omega
theorem i64_u64 (n : Int) (h0 : -9223372036854775808 ≤ n) (h1 : n ≤ 9223372036854775807) : i64 (u64 n) = n := by unfold i64 u64; split <;> omega
theorem u64_i64 (u : Nat) (h : u < 18446744073709551616) : u64 (i64 u) = u := by unfold i64 u64; split <;> omega
theorem i64_le (u : Nat) (h : u < 18446744073709551616) : -9223372036854775808 ≤ i64 u ∧ i64 u ≤ 9223372036854775807 := by unfold i64; split <;> omega
theorem i64_small (u : Nat) (h : u < 9223372036854775808) : i64 u = (u : Int) := by unfold i64; rw [if_pos h]

theorem or_add (u x : Nat) (hx : x < 256) : (u * 256 % 18446744073709551616) ||| x = u * 256 % 18446744073709551616 + x := by
  have h : u * 256 % 18446744073709551616 = 2 ^ 8 * (u % 72057594037927936) := by omega
  rw [h, Nat.two_pow_add_eq_or_of_lt (by omega)]

/-- eight bytes of a number, and back. -/
theorem num8_be8 (n : Nat) (h : n < 18446744073709551616) : Drw.num8 (Sha.be8 n) = n := by
  unfold Drw.num8 Sha.be8
  simp only [List.foldl_cons, List.foldl_nil]
  rw [or_add _ _ (Nat.mod_lt _ (by decide)), or_add _ _ (Nat.mod_lt _ (by decide)), or_add _ _ (Nat.mod_lt _ (by decide)), or_add _ _ (Nat.mod_lt _ (by decide)), or_add _ _ (Nat.mod_lt _ (by decide)), or_add _ _ (Nat.mod_lt _ (by decide)), or_add _ _ (Nat.mod_lt _ (by decide)), or_add _ _ (Nat.mod_lt _ (by decide))]
  omega
theorem be8_num8 (l : List Nat) (h8 : l.length = 8) (h : ∀ x ∈ l, x < 256) : Sha.be8 (Drw.num8 l) = l := by
  match l, h8 with
  | [a, b, c, d, e, f, g, k], _ =>
    have ha := h a (by simp)
    have hb := h b (by simp)
    have hc := h c (by simp)
    have hd := h d (by simp)
    have he := h e (by simp)
    have hf := h f (by simp)
    have hg := h g (by simp)
    have hk := h k (by simp)
    unfold Drw.num8 Sha.be8
    simp only [List.foldl_cons, List.foldl_nil]
    rw [or_add _ _ ha, or_add _ _ hb, or_add _ _ hc, or_add _ _ hd, or_add _ _ he, or_add _ _ hf, or_add _ _ hg, or_add _ _ hk]
    simp only [List.cons.injEq, and_true]
    refine ⟨?_, ?_, ?_, ?_, ?_, ?_, ?_, ?_⟩ <;> omega

/-- the bytes that are signed. -/
def signed (t s : Int) (body : List Nat) : List Nat := u8 t :: (Sha.be8 (u64 s) ++ body)
/-- a frame's bytes. -/
def bytes (t s : Int) (tag body : List Nat) : List Nat := u8 t :: (Sha.be8 (u64 s) ++ (tag ++ body))
/-- can a frame be written? -/
def form (t s : Int) (n : Nat) : Bool := decide (0 ≤ t) && decide (t ≤ 255) && decide (0 ≤ s) && decide (s ≤ 1099511627776) && decide (n ≤ 16343)
theorem form_iff (t s : Int) (n : Nat) : form t s n = true ↔ 0 ≤ t ∧ t ≤ 255 ∧ 0 ≤ s ∧ s ≤ 1099511627776 ∧ n ≤ 16343 := by simp [form, and_assoc]
theorem signed_length (t s : Int) (body : List Nat) : (signed t s body).length = 9 + body.length := by simp [signed, Sha.be8]; omega
theorem bytes_length (t s : Int) (tag body : List Nat) : (bytes t s tag body).length = 9 + tag.length + body.length := by simp [bytes, Sha.be8]; omega
theorem signed_lt (t s : Int) (body : List Nat) (h : ∀ x ∈ body, x < 256) : ∀ x ∈ signed t s body, x < 256 := by
  intro x hx
  rcases List.mem_cons.1 hx with rfl | hx
  · exact u8_lt t
  · rcases List.mem_append.1 hx with hx | hx
    · simp only [Sha.be8, List.mem_cons, List.not_mem_nil, or_false] at hx; omega
    · exact h x hx
theorem bytes_lt (t s : Int) (tag body : List Nat) (ht : ∀ x ∈ tag, x < 256) (h : ∀ x ∈ body, x < 256) : ∀ x ∈ bytes t s tag body, x < 256 :=
  signed_lt t s (tag ++ body) (fun x hx => by
    rcases List.mem_append.1 hx with hx | hx
    · exact ht x hx
    · exact h x hx)
/-- the parts of bytes. -/
def seqOf (b : List Nat) : Nat := Drw.num8 ((b.drop 1).take 8)
def isFrame (b : List Nat) : Bool := decide (41 ≤ b.length) && decide (b.length ≤ 16384) && decide (seqOf b ≤ 1099511627776)
theorem isFrame_iff (b : List Nat) : isFrame b = true ↔ 41 ≤ b.length ∧ b.length ≤ 16384 ∧ seqOf b ≤ 1099511627776 := by simp [isFrame, and_assoc]
theorem seqOf_lt (b : List Nat) (h : ∀ x ∈ b, x < 256) : seqOf b < 18446744073709551616 := Drw.num8_lt _ (fun x hx => h x (List.mem_of_mem_drop (List.mem_of_mem_take hx)))
theorem seqOf_bytes (t s : Int) (tag body : List Nat) : seqOf (bytes t s tag body) = u64 s := by
  have : ((bytes t s tag body).drop 1).take 8 = Sha.be8 (u64 s) := by simp [bytes, Sha.be8]
  rw [seqOf, this, num8_be8 _ (u64_lt s)]
theorem bytes_head (t s : Int) (tag body : List Nat) : (bytes t s tag body).getD 0 0 = u8 t := rfl
theorem bytes_tag (t s : Int) (tag body : List Nat) (h : tag.length = 32) : ((bytes t s tag body).drop 9).take 32 = tag := by
  have : (bytes t s tag body).drop 9 = tag ++ body := by simp [bytes, Sha.be8]
  rw [this, List.take_append_of_le_length (by omega), List.take_of_length_le (by omega)]
theorem bytes_body (t s : Int) (tag body : List Nat) (h : tag.length = 32) : (bytes t s tag body).drop 41 = body := by
  have : (bytes t s tag body).drop 41 = ((bytes t s tag body).drop 9).drop 32 := by rw [List.drop_drop]
  have e : (bytes t s tag body).drop 9 = tag ++ body := by simp [bytes, Sha.be8]
  rw [this, e, List.drop_append, List.drop_of_length_le (by omega), h]
  simp
/-- a frame's bytes, taken apart and put together. -/
theorem bytes_of (b : List Nat) (h : ∀ x ∈ b, x < 256) (hl : 41 ≤ b.length) : bytes ((b.getD 0 0 : Nat) : Int) ((seqOf b : Nat) : Int) ((b.drop 9).take 32) (b.drop 41) = b := by
  match b, hl with
  | x :: l, hl =>
    have hx := h x (by simp)
    simp only [List.length_cons] at hl
    have h8 : ((x :: l).drop 1).take 8 = l.take 8 := by simp
    unfold bytes
    rw [u64_nat _ (seqOf_lt _ h), show seqOf (x :: l) = Drw.num8 (l.take 8) by unfold seqOf; rw [h8], be8_num8 _ (by rw [List.length_take]; omega) (fun y hy => h y (by simp [List.mem_of_mem_take hy]))]
    have e0 : (x :: l).getD 0 0 = x := rfl
    rw [e0, u8_nat x hx]
    have e1 : (x :: l).drop 9 = l.drop 8 := rfl
    have e2 : (x :: l).drop 41 = l.drop 40 := rfl
    rw [e1, e2, show l.drop 40 = (l.drop 8).drop 32 by rw [List.drop_drop], List.take_append_drop, List.take_append_drop]
end Go.Proofs.Wr
