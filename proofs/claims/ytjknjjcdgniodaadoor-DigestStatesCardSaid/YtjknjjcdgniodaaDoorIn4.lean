/-
  What the statements' rows give the walks: a slice of pairs of whole numbers that came in.
-/
import Derived.Test.YtjknjjcdgniodaaDoorIn3
import Derived.Deep.SlicePairs
namespace Go.Proofs.YtjknjjcdgniodaaDoor
open Go.ChangeShapes Go.WideShapes Go.ChangeAt Go.RowKit Go.Proofs.Mem

/-- a slice of pairs. -/
def IsPairs (w : World) (v : Value) (len : Nat) (K N : Nat → Int) : Prop :=
  ∃ a cap, v = .slice a len cap ∧ len ≤ cap ∧ cap ≤ maxLen ∧ ∀ i, i < len → ∃ blk off, a = some ⟨blk, off, none⟩ ∧ blk < w.heap.size ∧
    w.cell? ⟨blk, off + i * 2, none⟩ = some (.int .i64 (K i)) ∧ w.cell? ⟨blk, off + i * 2 + 1, none⟩ = some (.int .i64 (N i)) ∧ (Lit.int .i64 (K i)).wf = true ∧ (Lit.int .i64 (N i)).wf = true

theorem isPairs_of {H : Type} {enc : TypeId × Value → H} {W : World} {held : Bool} {T E : TypeId} {f0 f1 : Field} (hT : Tryd.prog.underlying T = some (.slice E)) (hE : Tryd.prog.underlying E = some (.struct #[f0, f1]))
    (ce : Tryd.prog.cellsOf E = 2) (o0 : f0.offset = 0) (o1 : f1.offset = 1) (c0 : Tryd.prog.cellsOf f0.type = 1) (c1 : Tryd.prog.cellsOf f1.type = 1) (i0 : Tryd.prog.underlying f0.type = some (.int .i64)) (i1 : Tryd.prog.underlying f1.type = some (.int .i64))
    {a : Option Addr} {len cap : Nat} {d : DataW H} {p : List MemPlace}
    (h : DataW.Trod enc Tryd.prog W 0 (fun _ => true) held T (.slice a len cap) d p) : ∃ K N, IsPairs W (.slice a len cap) len K N := by
  obtain ⟨fuel, hf⟩ := h
  rcases Go.Deep.open_slice_pairs hT hE ce o0 o1 c0 c1 hf with ⟨hcs, _⟩ | ⟨x, l, c, m, n, V0, V1, D0, D1, P0, P1, hcs, _, hl, hm, hmm, _, hr⟩
  · simp [Value.cells] at hcs
    obtain ⟨rfl, rfl, rfl⟩ := hcs
    exact ⟨fun _ => 0, fun _ => 0, none, 0, rfl, Nat.le_refl _, Nat.zero_le _, fun i hi => by omega⟩
  · simp [Value.cells] at hcs
    obtain ⟨rfl, rfl, rfl⟩ := hcs
    simp only [if_true] at hmm
    have each : ∀ i, i < len → ∃ q : Int × Int, W.cell? (x.add (i * 2)) = some (.int .i64 q.1) ∧ W.cell? (x.add (i * 2 + 1)) = some (.int .i64 q.2) ∧ (Lit.int .i64 q.1).wf = true ∧ (Lit.int .i64 q.2).wf = true := by
      intro i hi
      obtain ⟨h1, h2, h3, h4⟩ := hr i (by omega)
      obtain ⟨z0, e0, _, w0⟩ := DataW.trod_int i0 h3
      obtain ⟨z1, e1, _, w1⟩ := DataW.trod_int i1 h4
      simp only [List.cons.injEq, and_true] at e0 e1
      exact ⟨(z0, z1), by rw [h1, e0], by rw [h2, e1], w0, w1⟩
    obtain ⟨q, hq⟩ := Go.Deep.choose_lt each
    refine ⟨fun i => (q i).1, fun i => (q i).2, some x, cap, rfl, hl, hm, fun i hi => ?_⟩
    obtain ⟨h1, h2, h3, h4⟩ := hq i hi
    obtain ⟨h10, _⟩ := hq 0 (by omega)
    rw [Nat.zero_mul] at h10
    obtain ⟨blk, off, rfl⟩ := spot_none h10
    rw [addr_add] at h1 h2
    refine ⟨blk, off, rfl, ?_, h1, h2, h3, h4⟩
    unfold World.cell? at h1
    simp at h1
    split at h1
    · rename_i hg
      exact (Array.getElem?_eq_some_iff.1 hg).1
    · cases h1
end Go.Proofs.YtjknjjcdgniodaaDoor
