/-
  What the statements' rows give the walks, where errors' variables are listed; worlds for the witness.
-/
import Derived.Test.YtnpneippahdigaaDoorIn
import Derived.Test.YtnpneippahdigaaDoorErrs
namespace Go.Proofs.YtnpneippahdigaaDoor
open Go.ChangeShapes Go.WideShapes Go.ChangeAt Go.RowKit Go.Proofs.Mem

/-- the errors' texts. -/
def errTexts : List (String × List UInt8) := [
  ("stockade/api.ErrRange", [115, 116, 111, 99, 107, 97, 100, 101, 58, 32, 114, 97, 110, 103, 101]),
  ("stockade/api.ErrText", [115, 116, 111, 99, 107, 97, 100, 101, 58, 32, 116, 101, 120, 116]),
  ("stockade/api.ErrDepth", [115, 116, 111, 99, 107, 97, 100, 101, 58, 32, 100, 101, 112, 116, 104]),
  ("stockade/api.ErrName", [115, 116, 111, 99, 107, 97, 100, 101, 58, 32, 110, 97, 109, 101]),
  ("stockade/api.ErrType", [115, 116, 111, 99, 107, 97, 100, 101, 58, 32, 116, 121, 112, 101]),
  ("stockade/api.ErrLarge", [115, 116, 111, 99, 107, 97, 100, 101, 58, 32, 108, 97, 114, 103, 101]),
  ("stockade/api.ErrFull", [115, 116, 111, 99, 107, 97, 100, 101, 58, 32, 102, 117, 108, 108]),
  ("stockade/api.ErrNone", [115, 116, 111, 99, 107, 97, 100, 101, 58, 32, 110, 111, 110, 101]),
  ("stockade/api.ErrCode", [115, 116, 111, 99, 107, 97, 100, 101, 58, 32, 99, 111, 100, 101]),
  ("stockade/api.ErrState", [115, 116, 111, 99, 107, 97, 100, 101, 58, 32, 115, 116, 97, 116, 101]),
  ("stockade/api.ErrFrame", [115, 116, 111, 99, 107, 97, 100, 101, 58, 32, 102, 114, 97, 109, 101]),
  ("stockade/api.ErrMac", [115, 116, 111, 99, 107, 97, 100, 101, 58, 32, 109, 97, 99]),
  ("stockade/api.ErrReplay", [115, 116, 111, 99, 107, 97, 100, 101, 58, 32, 114, 101, 112, 108, 97, 121]),
  ("stockade/api.ErrArena", [115, 116, 111, 99, 107, 97, 100, 101, 58, 32, 97, 114, 101, 110, 97]),
  ("stockade/api.ErrClock", [115, 116, 111, 99, 107, 97, 100, 101, 58, 32, 99, 108, 111, 99, 107]),
  ("stockade/api.ErrQuota", [115, 116, 111, 99, 107, 97, 100, 101, 58, 32, 113, 117, 111, 116, 97]),
  ("stockade/api.ErrTenant", [115, 116, 111, 99, 107, 97, 100, 101, 58, 32, 116, 101, 110, 97, 110, 116])]
def errGs : List Nat := [1, 3, 4, 5, 6, 7, 8, 9, 2, 10, 11, 12, 13, 14, 15, 0, 16]
theorem errGs_named : (errTexts.map fun e => Tryd.prog.globalNamed e.1) = errGs.map some := by kernel_rfl
theorem errGs_type : ∀ g ∈ errGs, (Tryd.prog.globals[g]?).map (·.type) = some 30 := by
  have h : errGs.all (fun g => decide ((Tryd.prog.globals[g]?).map (·.type) = some 30)) = true := by kernel_rfl
  intro g hg
  exact of_decide_eq_true (List.all_eq_true.1 h g hg)

/-- out of a row's list, where the table stands first and errors' variables behind it. -/
theorem errs_laid {W : World} {d : String × DataW Unit} (k : Nat) (h : laidMet Tryd.prog (d :: (errTexts.take k).map fun e => (e.1, errD e.2)) W) : ∃ xs : List Addr, ErrsAt W (errGs.take k) xs ∧ xs.Nodup := by
  obtain ⟨ps, ⟨g', t', cs, fuel, p, q, hg', ht', hv, hd, hq, rfl⟩, hnd, hrows⟩ := h
  obtain ⟨xs, h1, h2, _⟩ := errs_of_list (W := W) (errTexts.take k) (errGs.take k) q
    (by rw [List.map_take, errGs_named, List.map_take]) (fun g hg => errGs_type g (List.mem_of_mem_take hg)) hq (List.nodup_append.1 hnd).2.1 (fun b off hb => hrows b off (by simp [hb]))
  exact ⟨xs, h1, h2⟩
theorem err1_laid {W : World} {d : String × DataW Unit} (h : laidMet Tryd.prog (d :: (errTexts.take 1).map fun e => (e.1, errD e.2)) W) : ∃ a : Addr, ErrAt W 1 a := by
  obtain ⟨xs, h1, _⟩ := errs_laid 1 h
  match xs, h1 with
  | [a], h1 => exact ⟨a, h1.1⟩

theorem IsRow.le64 {w : World} {a : Option Addr} {len cap : Nat} {zs : List Int} (h : IsRow .i64 w a len cap zs) : ∀ x ∈ zs.take len, x ≤ 9223372036854775807 := by
  intro n hn
  have hn' := List.mem_of_mem_take hn
  rcases h with ⟨_, _, _, rfl⟩ | ⟨_, _, _, _, _, _, hwf⟩
  · simp at hn'
  · have := hwf n hn'
    simp [Lit.wf, IntKind.min, IntKind.max, IntKind.signed, IntKind.bits] at this
    omega

noncomputable def low : Nat := (World.holding Tryd.prog default ⟨#[], #[], []⟩).heap.size
/-- a world for the witness: the settled one, the table laid, and the first k errors. -/
noncomputable def laidWorldE (k : Nat) (os : Os) : World :=
  let w0 := World.holding Tryd.prog os ⟨((errTexts.take k).map fun e => Obj.cells #[.string ⟨e.2.toArray⟩] 242).toArray, #[], []⟩
  { w0 with heap := (errGs.take k).zipIdx.foldl (fun h x => h.modify x.1 fun
      | .cells _ t frozen => .cells #[.iface 217 (.pointer (some ⟨low + x.2, 0, none⟩))] t frozen
      | o => o) (w0.heap.modify 17 fun
      | .cells _ t frozen => .cells (ints .u32 Sha.turns).toArray t frozen
      | o => o) }
end Go.Proofs.YtnpneippahdigaaDoor
