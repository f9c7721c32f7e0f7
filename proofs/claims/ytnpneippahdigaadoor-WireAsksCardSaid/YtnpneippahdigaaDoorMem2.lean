/-
  More on worlds and blocks: an array's value read at a place, a part of a block read whole. No program in sight.
-/
import Derived.Test.YtnpneippahdigaaDoorMem
import Derived.Deep.MidRow
namespace Go.Proofs.Mem
open Go.RowKit

theorem index_agg {P : Program} (T E n : Nat) (k : IntKind) (hT : P.underlying T = some (.array n E)) (hk : P.underlying E = some (.int k)) (hE : (P.info? E).map (·.size) = some 1) (w : World) (xs : List Value) (i : Nat) (v : Value) (hi : i < n) (hv : xs[i]? = some v) :
    (Instr.index T (.agg xs.toArray) (.int .i64 (i : Int))).run P w = .ok v w := by
  obtain ⟨j, hj, hs⟩ : ∃ j, P.info? E = some j ∧ j.size = 1 := by
    cases hq : P.info? E with
    | none => simp [hq] at hE
    | some j => exact ⟨j, rfl, by simpa [hq] using hE⟩
  simp [Instr.index, asIntOf, run_underlying hT, hi, sizeOf, typeInfo, hj, hs, part, isAgg, run_underlying hk, hv]

/-- a part of a block, read whole. -/
theorem range_at {w : World} {b : Nat} {cs : List Value} {T : TypeId} {fr : Nat × Nat} (h : w.heap[b]? = some (.cells cs.toArray T fr)) (off n : Nat) : w.rangeAt b off ((cs.drop off).take n) := by
  intro j v hv
  rw [cell_at h, ← hv, List.getElem?_take]
  rw [List.getElem?_take] at hv
  split at hv
  · rw [if_pos ‹_›, List.getElem?_drop]
  · cases hv
theorem shr_run {P : Program} (k ky : IntKind) (n : Nat) (q : Int) (m : Nat) (hq : q = (m : Int)) (hm : m ≤ k.bits) (w : World) : (Op.shift .shr k (n : Int) ky q).run P w = .ok (.int k ((n / 2 ^ m : Nat) : Int)) w := by
  subst hq
  have h0 : ¬ ((m : Int) < 0) := by omega
  have e1 : (n : Int).fdiv (2 ^ m) = ((n / 2 ^ m : Nat) : Int) := by
    rw [Int.fdiv_eq_ediv_of_nonneg _ (Int.pow_nonneg (by decide)), Int.natCast_ediv, Int.natCast_pow]; rfl
  simp [Op.shift, h0, Nat.min_eq_left hm, e1]

theorem calls_world {P : Program} {f : FuncId} {args : Array Value} {w : World} {Q : Ending → World → Prop} (R : World → Prop) (h : R w) (k : ∀ w', R w' → Calls P f args w' Q) : Calls P f args w Q := k w h
theorem list_world {P : Program} {ops : Array Oper} {Q : Exit → Act → World → Prop} {l : List Oper} {a : Act} {w : World} (R : World → Prop) (h : R w) (k : ∀ w', R w' → wpList P ops Q l a w') : wpList P ops Q l a w := k w h
end Go.Proofs.Mem
