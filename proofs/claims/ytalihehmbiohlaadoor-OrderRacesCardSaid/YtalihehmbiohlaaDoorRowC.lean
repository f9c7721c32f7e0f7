/-
  A row of structs copied behind an empty row of its own. No program in sight.
-/
import Derived.Test.YtalihehmbiohlaaDoorRowS
import Derived.Laws.AppendOwnNone
namespace Go.Proofs.Mem
open Go Go.RowKit

theorem flatten_at {k : Nat} {ls : List (List Value)} (hk0 : 0 < k) (hk : ∀ x ∈ ls, x.length = k) (j : Nat) (y : Value) (h : ls.flatten[j]? = some y) : ∃ x, ls[j / k]? = some x ∧ x[j % k]? = some y := by
  have hj : j < ls.flatten.length := by
    rcases Nat.lt_or_ge j ls.flatten.length with h1 | h1
    · exact h1
    · rw [List.getElem?_eq_none h1] at h; cases h
  rw [flatten_length hk] at hj
  have h1 : j / k < ls.length := Nat.div_lt_of_lt_mul (by rw [Nat.mul_comm]; exact hj)
  obtain ⟨x, hx⟩ : ∃ x, ls[j / k]? = some x := ⟨_, List.getElem?_eq_getElem h1⟩
  have hl : x.length = k := hk x (List.mem_of_getElem? hx)
  have h2 : j % k < x.length := by rw [hl]; exact Nat.mod_lt _ hk0
  have h3 := flatten_get hk (j / k) x (j % k) x[j % k] hx (List.getElem?_eq_getElem h2)
  rw [show j / k * k + j % k = j by rw [Nat.mul_comm]; exact Nat.div_add_mod j k, h] at h3
  refine ⟨x, hx, ?_⟩
  rw [List.getElem?_eq_getElem h2, ← h3]
/-- append(v, s...) of a row of structs to an empty row of its own. -/
theorem copy_s {P : Program} (T E : TypeId) (z : Value) (k bytes : Nat) (hT : P.underlying T = some (.slice E)) (hinf : (P.info? E).map (fun i => (i.zero, i.size, i.bytes)) = some (some z, k, bytes)) (hzk : z.cells.size = k) (hk0 : 0 < k)
    (B : Nat) (w : World) (ty : TypeId) (v s : Value) (p : Nat → Prop) (ls : List (List Value)) (h : OwnS B w E k v []) (hs : AtS w p k s ls) (hk : ∀ x ∈ ls, x.length = k) (h1 : ∀ x ∈ ls, ∀ y ∈ x, y.oneCell' = true) (hb : ls.length ≤ 1000000) (hby : bytes ≤ 1000000) (hB : B ≤ w.heap.size) :
    ∃ v' w', (Builtin.append_ #[T, T] ty #[v, s]).run P w = .ok v' w' ∧ OwnS B w' E k v' ls ∧ Keep (fun b => b < w.heap.size ∧ v.ownBlock ≠ some b) w w' ∧ ∀ b, v'.ownBlock = some b → v.ownBlock = some b ∨ w.heap.size ≤ b := by
  obtain ⟨i0, hi, hz, hsz, hyb⟩ := info_parts hinf
  obtain ⟨a, len, cap, rfl, rfl, h2, h3, h4⟩ := hs
  cases a with
  | none =>
    obtain rfl : ls = [] := by
      cases ls with
      | nil => rfl
      | cons x l => obtain ⟨b, o, e, _⟩ := h4 0 x rfl; cases e
    refine ⟨v, w, ?_, h, Keep.refl _ _, fun b hb => .inl hb⟩
    rcases h.2 with ⟨rfl, _⟩ | ⟨g, c, cur, rfl, _, _, hnc, _⟩
    · simp [Builtin.append_, run_underlying hT, sizeOf, typeInfo, hi, Builtin.lenOf, Builtin.firstCells]
    · simp [Builtin.append_, run_underlying hT, sizeOf, typeInfo, hi, Builtin.lenOf, Builtin.firstCells, storeCells]
  | some a =>
    obtain ⟨v', w', hr, h6, h7, _, h8⟩ := run_append_own_at (P := P) w B T ty E i0 z k bytes hT hi hz hsz hyb hzk hk0 v 0 [] h a ls.length cap ls.flatten (flatten_length hk) (fun j u hu => by
      obtain ⟨x, hx, hy⟩ := flatten_at hk0 hk j u hu
      obtain ⟨blk, off, e, _, hr⟩ := h4 _ x hx
      cases e
      have := hr _ u hy
      rw [addr_add, show off + j = off + j / k * k + j % k by rw [Nat.add_assoc, Nat.mul_comm (j / k) k, Nat.div_add_mod]]
      exact this) (fun u hu => by
      obtain ⟨x, hx, hy⟩ := List.mem_flatten.1 hu
      exact h1 x hx u hy) (by unfold maxLen; omega) (by
      have : (0 + ls.length) * bytes ≤ 1000000 * 1000000 := Nat.mul_le_mul (by omega) hby
      omega) hB
    refine ⟨v', w', hr, ?_, ⟨h7.os, h7.tape, h7.output, h7.size, fun b hb => h7.block b hb.1 (fun e => hb.2 e.symm)⟩, fun b hb => ?_⟩
    · unfold OwnS
      simpa using h6
    · rcases h8 with h8 | h8
      · exact .inl (h8 ▸ hb)
      · rw [hb] at h8; injection h8 with h8; exact .inr (by omega)
end Go.Proofs.Mem
