/-
  Two requests compared.
-/
import Derived.Test.YtnpneippahdigaaDoorWireN
import Derived.Laws.StructEq
namespace Go.Proofs.YtnpneippahdigaaDoor
open Go.RowKit Go.Proofs.Mem Go.Proofs.Txt

theorem req_stood : Tryd.prog.stoodInHeld 55 = false := by kernel_rfl
theorem req_guard : Tryd.prog.eqGuardType Tryd.prog.depth 55 = false := by kernel_rfl
theorem req_fields : (Tryd.prog.fieldsOf 55).toList.map (fun f => (f.name == "_", f.type, f.offset)) = [(false, 3, 0), (false, 3, 1), (false, 3, 2), (false, 9, 3)] := by kernel_rfl
theorem req_under : Tryd.prog.underlying 55 = some (.struct (Tryd.prog.fieldsOf 55)) := by
  unfold Program.fieldsOf
  rw [Tryd.underlying55]
theorem eqF_same (w : World) (k n f : Int) (text : List Nat) : ∀ (fs : List Field), fs.map (fun f => (f.name == "_", f.type, f.offset)) = [(false, 3, 0), (false, 3, 1), (false, 3, 2), (false, 9, 3)] →
    (Op.eqFields 9999 (rqC k n f text).toArray (rqC k n f text).toArray fs).run Tryd.prog w = .ok true w
  | [f0, f1, f2, f3], h => by
    simp only [List.map_cons, List.map_nil, List.cons.injEq, Prod.mk.injEq, and_true, beq_eq_false_iff_ne] at h
    obtain ⟨⟨n0, t0, o0⟩, ⟨n1, t1, o1⟩, ⟨n2, t2, o2⟩, n3, t3, o3⟩ := h
    have c1 : Tryd.prog.cellsOf 3 = 1 := by kernel_rfl
    have c2 : Tryd.prog.cellsOf 9 = 1 := by kernel_rfl
    have u1 := Tryd.underlying3
    have u2 := Tryd.underlying9
    simp only [Op.eqFields, n0, n1, n2, n3, t0, t1, t2, t3, o0, o1, o2, o3, rqC, ne_eq, not_false_eq_true, if_true, Sem.run_bind]
    go_simp
  | [], h => by simp at h
  | [_], h => by simp at h
  | [_, _], h => by simp at h
  | [_, _, _], h => by simp at h
  | _ :: _ :: _ :: _ :: _ :: _, h => by simp at h
theorem neq_req (k n f : Int) (text : List Nat) (w : World) : (binOp .neq 55 (.agg (rqC k n f text).toArray) (.agg (rqC k n f text).toArray)).run Tryd.prog w = .ok (.bool false) w := by
  rw [run_neq_struct, run_equalIn_agg w 9999 _ _ _ req_under req_stood, eqF_same w k n f text _ req_fields]
  rfl
end Go.Proofs.YtnpneippahdigaaDoor
