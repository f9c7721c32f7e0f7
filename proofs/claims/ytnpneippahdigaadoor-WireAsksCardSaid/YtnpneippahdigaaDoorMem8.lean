/-
  A part of a slice; a struct stored whole. No program in sight.
-/
import Derived.Test.YtnpneippahdigaaDoorMem7
import Derived.Laws.Tables
namespace Go.Proofs.Txt
open Go Go.RowKit Go.Proofs.Mem
section
variable {P : Program} {ops : Array Oper} {S : World → Prop} {Q : Exit → Act → World → Prop}
theorem exec_build {o : Oper} {a : Act} {w : World} (t : TypeId) (l : List (Nat × Operand)) (ho : o.op = .build t l.toArray) (v : Value)
    (hr : (Instr.build t (l.map fun x => (x.1, a.eval x.2)).toArray).run P w = .ok v w) : (execOp a.eval o).run P w = .ok (.value v) w := by
  unfold execOp
  simp only [ho, Sem.run_bind, List.map_toArray]
  rw [show ((fun (x : Nat × Operand) => match x with | (i, y) => (i, a.eval y)) : Nat × Operand → Nat × Value) = fun x => (x.1, a.eval x.2) from rfl, hr]
  rfl
/-- a build, its run told. -/
theorem plan_build {o : Oper} {i : Nat} {p : Plan} {a : Act} {w : World} (hi : ops[i]? = some o) (hg : Region.wanted o (yielded ops a.tmps) = true) (t : TypeId) (l : List (Nat × Operand)) (ho : o.op = .build t l.toArray) (v : Value)
    (hr : ∀ w, (Instr.build t (l.map fun x => (x.1, a.eval x.2)).toArray).run P w = .ok v w)
    (h : ∀ K : Act → Prop, (∀ a', runs P ops S Q p a' w → K a') → K (a.put o.dst v)) : runs P ops S Q (.free i p) a w :=
  plan_held v hi hg (fun w0 _ => exec_build t l ho v (hr w0)) h
end
end Go.Proofs.Txt
namespace Go.Proofs.Mem
open Go.RowKit
theorem cells_sub {w : World} {p : Nat → Prop} {blk off : Nat} {cs : List Value} (hp : p blk) (h : ∀ i, i < cs.length → w.cell? ⟨blk, off + i, none⟩ = cs[i]?) (i k c : Nat) (hik : i + k ≤ cs.length) (hkc : k ≤ c) (hc : c ≤ 9223372036854775807) : Cells w p (.slice (some ⟨blk, off + i, none⟩) k c) ((cs.drop i).take k) := by
  have hl : ((cs.drop i).take k).length = k := by rw [List.length_take, List.length_drop]; omega
  refine ⟨_, _, _, rfl, hl.symm, hkc, by unfold maxLen; omega, fun _ => ⟨blk, off + i, rfl, hp, fun j hj => ?_⟩⟩
  rw [Nat.add_assoc, h (i + j) (by omega), List.getElem?_take, if_pos hj, List.getElem?_drop]
theorem ints_drop (k : IntKind) (xs : List Nat) (n : Nat) : (ints k xs).drop n = ints k (xs.drop n) := by simp [ints]
theorem ints_take (k : IntKind) (xs : List Nat) (n : Nat) : (ints k xs).take n = ints k (xs.take n) := by simp [ints]
/-- a slice that is not empty, opened. -/
theorem Cells.open_ {w : World} {p : Nat → Prop} {k : IntKind} {v : Value} {xs : List Nat} (h : Cells w p v (ints k xs)) (h0 : 0 < xs.length) :
    ∃ blk off cap, v = .slice (some ⟨blk, off, none⟩) xs.length cap ∧ xs.length ≤ cap ∧ cap ≤ 9223372036854775807 ∧ p blk ∧ ∀ i, i < (ints k xs).length → w.cell? ⟨blk, off + i, none⟩ = (ints k xs)[i]? := by
  obtain ⟨blk, off, cap, e, h1, h2, h3, h4⟩ := h.at_ (by rw [ints_length]; exact h0)
  rw [ints_length] at e h1
  exact ⟨blk, off, cap, e, h1, h2, h3, h4⟩
end Go.Proofs.Mem
