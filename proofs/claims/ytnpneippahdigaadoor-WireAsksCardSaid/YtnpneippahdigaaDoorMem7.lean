/-
  Loads of rows in a region walked by a plan; xor of a byte. No program in sight.
-/
import Derived.Test.YtnpneippahdigaaDoorTxt4
import Derived.Test.YtnpneippahdigaaDoorMem6
import Derived.Deep.MidRow
namespace Go.Proofs.Txt
open Go Go.RowKit Go.Proofs.Mem
section
variable {P : Program} {ops : Array Oper} {S : World → Prop} {Q : Exit → Act → World → Prop}
theorem exec_load_mid {op : Oper} {a : Act} {w : World} (ty : TypeId) (x : Operand) (ho : op.op = .load ty x)
    (b o : Nat) (hx : a.eval x = .pointer (some ⟨b, o, none⟩)) (cs : List Value) (d : TypeDesc) (hc : w.rangeAt b o cs)
    (hu : P.underlying ty = some d) (hd : d.isRow = true) (hi : (P.info? ty).map (·.size) = some cs.length) : (execOp a.eval op).run P w = .ok (.value (.agg cs.toArray)) w := by
  unfold execOp
  simp only [ho, hx, Instr.loadAt, Instr.sureAddr, Sem.run_bind, Sem.run_pure, Result.andThen_ok, run_loadVar_mid w b o ty cs d hc hu hd hi]
/-- a struct or an array loaded out of a block that S tells. -/
theorem plan_load {op : Oper} {i : Nat} {p : Plan} {a : Act} {w : World} (hi : ops[i]? = some op) (hg : Region.wanted op (yielded ops a.tmps) = true) (ty : TypeId) (x : Operand) (ho : op.op = .load ty x)
    (b o : Nat) (hx : a.eval x = .pointer (some ⟨b, o, none⟩)) (cs : List Value) (d : TypeDesc) (hc : ∀ w, S w → w.rangeAt b o cs)
    (hu : P.underlying ty = some d) (hd : d.isRow = true) (hs : (P.info? ty).map (·.size) = some cs.length)
    (h : ∀ K : Act → Prop, (∀ a', runs P ops S Q p a' w → K a') → K (a.put op.dst (.agg cs.toArray))) : runs P ops S Q (.free i p) a w :=
  plan_held (.agg cs.toArray) hi hg (fun w0 h0 => exec_load_mid ty x ho b o hx cs d (hc w0 h0) hu hd hs) h
end
end Go.Proofs.Txt
namespace Go.Proofs.Mem
open Go.RowKit
theorem range_whole {w : World} {b : Nat} {cs : List Value} {T : TypeId} {fr : Nat × Nat} (h : w.heap[b]? = some (.cells cs.toArray T fr)) : w.rangeAt b 0 cs := by
  intro j v hv
  rw [Nat.zero_add, cell_at h, hv]
theorem xor_u8 (x : Int) (y : Int) : ∃ r : Nat, bits .xor .u8 x y = (r : Int) ∧ r < 256 := by
  have h : ∃ z : Int, bits .xor .u8 x y = IntKind.u8.wrap z := ⟨_, rfl⟩
  obtain ⟨z, h⟩ := h
  rw [h, IntKind.wrap_u8]
  exact ⟨(z % 256).toNat, by omega, by omega⟩
end Go.Proofs.Mem
