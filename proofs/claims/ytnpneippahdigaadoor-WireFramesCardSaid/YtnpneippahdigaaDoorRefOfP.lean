/-
  What the walk of the reference's 'Of' needs of numbers and rows.
-/
import Derived.Test.YtnpneippahdigaaDoorRefPad
import Derived.Test.YtnpneippahdigaaDoorRefNew
import Derived.Test.YtnpneippahdigaaDoorRefRot
import Derived.Test.YtnpneippahdigaaDoorMixP
namespace Go.Proofs.YtnpneippahdigaaDoor
open Go.RowKit Go.Proofs.Mem

theorem word4 (c : List Nat) (t b0 b1 b2 b3 : Nat) (e : c.getD (4 * t) 0 = b0 ∧ c.getD (4 * t + 1) 0 = b1 ∧ c.getD (4 * t + 2) 0 = b2 ∧ c.getD (4 * t + 3) 0 = b3) (h0 : b0 < 256) (h1 : b1 < 256) (h2 : b2 < 256) (h3 : b3 < 256) :
    bits .or .u32 (bits .or .u32 (bits .or .u32 ((b0 : Int) % 4294967296 * 16777216 % 4294967296) ((b1 : Int) % 4294967296 * 65536 % 4294967296)) ((b2 : Int) % 4294967296 * 256 % 4294967296)) ((b3 : Int) % 4294967296) = (Sha.wordTo c t 4 : Nat) := by
  obtain ⟨e0, e1, e2, e3⟩ := e
  have c3 : (b3 : Int) % 4294967296 = (b3 : Int) := by omega
  have c0 : (b0 : Int) % 4294967296 * 16777216 % 4294967296 = ((b0 * 16777216 : Nat) : Int) := by omega
  have c1 : (b1 : Int) % 4294967296 * 65536 % 4294967296 = ((b1 * 65536 : Nat) : Int) := by omega
  have c2 : (b2 : Int) % 4294967296 * 256 % 4294967296 = ((b2 * 256 : Nat) : Int) := by omega
  have j1 : b0 * 16777216 ||| b1 * 65536 = b0 * 16777216 + b1 * 65536 := nat_join 24 _ _ (by omega) (by omega)
  have j2 : b0 * 16777216 + b1 * 65536 ||| b2 * 256 = b0 * 16777216 + b1 * 65536 + b2 * 256 := nat_join 16 _ _ (by omega) (by omega)
  have j3 : b0 * 16777216 + b1 * 65536 + b2 * 256 ||| b3 = b0 * 16777216 + b1 * 65536 + b2 * 256 + b3 := nat_join 8 _ _ (by omega) (by omega)
  rw [c0, c1, c2, c3, u32_or_nat _ _ (by omega) (by omega), j1, u32_or_nat _ _ (by omega) (by omega), j2, u32_or_nat _ _ (by omega) (by omega), j3]
  simp only [Sha.wordTo, Nat.add_zero, e0, e1, e2, e3, Sha.M]
  have k1 : b0 * 256 % 4294967296 ||| b1 = b0 * 256 + b1 := by rw [Nat.mod_eq_of_lt (by omega)]; exact nat_join 8 _ _ (by omega) (by omega)
  have k2 : (b0 * 256 + b1) * 256 % 4294967296 ||| b2 = (b0 * 256 + b1) * 256 + b2 := by rw [Nat.mod_eq_of_lt (by omega)]; exact nat_join 8 _ _ (by omega) (by omega)
  have k3 : ((b0 * 256 + b1) * 256 + b2) * 256 % 4294967296 ||| b3 = ((b0 * 256 + b1) * 256 + b2) * 256 + b3 := by rw [Nat.mod_eq_of_lt (by omega)]; exact nat_join 8 _ _ (by omega) (by omega)
  have k0 : 0 * 256 % 4294967296 ||| b0 = b0 := by simp
  rw [k0, k1, k2, k3]
  omega
/-- the words of a block, t of them. -/
def schedTo (c : List Nat) (t : Nat) : List Nat := if t ≤ 16 then Sha.load c t else Sha.more (Sha.load c 16) (t - 16)
theorem schedTo_0 (c : List Nat) : schedTo c 0 = List.replicate 64 0 := rfl
theorem schedTo_64 (c : List Nat) : schedTo c 64 = Sha.sched c := rfl
theorem schedTo_word (c : List Nat) (t : Nat) (h : t < 16) : schedTo c (t + 1) = (schedTo c t).set t (Sha.wordTo c t 4) := by
  unfold schedTo; rw [if_pos (by omega), if_pos (by omega)]; rfl
theorem schedTo_more (c : List Nat) (t : Nat) (h : 16 ≤ t) : schedTo c t = Sha.more (Sha.load c 16) (t - 16) := by
  unfold schedTo
  split
  · obtain rfl : t = 16 := by omega
    rfl
  · rfl
theorem schedTo_length (c : List Nat) (t : Nat) : (schedTo c t).length = 64 := by
  unfold schedTo; split
  · exact load_length _ _
  · rw [more_length, load_length]
theorem schedTo_lt (c : List Nat) (t : Nat) (hc : ∀ i, c.getD i 0 < 256) : ∀ k, (schedTo c t).getD k 0 < 4294967296 := by
  unfold schedTo; split
  · exact load_lt _ _ hc
  · exact more_lt _ _ (load_lt _ _ hc)
theorem t1_int (r : Sha.V8) (k x : Nat) (ok : r.ok) :
    ((r.h : Int) + bits .xor .u32 (bits .xor .u32 (Sha.rr r.e 6 : Nat) (Sha.rr r.e 11 : Nat)) (Sha.rr r.e 25 : Nat) + bits .xor .u32 (bits .and .u32 (r.e : Int) (r.f : Int)) (bits .and .u32 (bits .xor .u32 IntKind.u32.max (r.e : Int)) (r.g : Int)) + (k : Int) + (x : Int)) % 4294967296
      = ((Sha.t1 r k x : Nat) : Int) := by
  obtain ⟨ba, bb, bc, bd, be, bf, bg, bh⟩ := ok
  simp only [Sha.M] at ba bb bc bd be bf bg bh
  rw [bs1_int _ be, ch_int _ _ _ be bf bg]
  simp only [Sha.t1, Sha.M]
  omega
theorem t2_int (r : Sha.V8) (ok : r.ok) :
    (bits .xor .u32 (bits .xor .u32 (Sha.rr r.a 2 : Nat) (Sha.rr r.a 13 : Nat)) (Sha.rr r.a 22 : Nat) + bits .xor .u32 (bits .xor .u32 (bits .and .u32 (r.a : Int) (r.b : Int)) (bits .and .u32 (r.a : Int) (r.c : Int))) (bits .and .u32 (r.b : Int) (r.c : Int))) % 4294967296
      = ((Sha.t2 r : Nat) : Int) := by
  obtain ⟨ba, bb, bc, bd, be, bf, bg, bh⟩ := ok
  simp only [Sha.M] at ba bb bc bd be bf bg bh
  rw [bs0_int _ ba, maj_int _ _ _ ba bb bc]
  simp only [Sha.t2, Sha.M]
  omega
end Go.Proofs.YtnpneippahdigaaDoor
