/-
  A world for the witness: the settled one, the table laid, and the one error ErrFrame.
-/
import Derived.Test.YtnpneippahdigaaDoorIn
namespace Go.Proofs.YtnpneippahdigaaDoor
open Go.ChangeShapes Go.WideShapes Go.ChangeAt Go.RowKit Go.Proofs.Mem

noncomputable def laidWorldF (os : Os) : World :=
  let w0 := World.holding Tryd.prog os ⟨#[Obj.cells #[.string ⟨#[115, 116, 111, 99, 107, 97, 100, 101, 58, 32, 102, 114, 97, 109, 101]⟩] 242], #[], []⟩
  { w0 with heap := (w0.heap.modify 11 fun
      | .cells _ t frozen => .cells #[.iface 217 (.pointer (some ⟨(World.holding Tryd.prog default ⟨#[], #[], []⟩).heap.size, 0, none⟩))] t frozen
      | o => o).modify 17 fun
      | .cells _ t frozen => .cells (ints .u32 Sha.turns).toArray t frozen
      | o => o }
end Go.Proofs.YtnpneippahdigaaDoor
