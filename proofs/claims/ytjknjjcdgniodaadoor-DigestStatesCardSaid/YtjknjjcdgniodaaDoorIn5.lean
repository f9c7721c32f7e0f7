/-
  What the statements' rows give the walks: a slice of structs of two whole numbers and a slice of bytes, that came in.
-/
import Derived.Test.YtjknjjcdgniodaaDoorIn4
namespace Go.Proofs.YtjknjjcdgniodaaDoor
open Go.ChangeShapes Go.WideShapes Go.ChangeAt Go.RowKit Go.Proofs.Mem

/-- a slice of operations with bytes. -/
def IsOps (w : World) (v : Value) (len : Nat) (K S : Nat → Int) (B : Nat → Value) (X : Nat → List Nat) : Prop :=
  ∃ a cap, v = .slice a len cap ∧ len ≤ cap ∧ cap ≤ maxLen ∧ ∀ i, i < len → ∃ blk off, a = some ⟨blk, off, none⟩ ∧ blk < w.heap.size ∧
    w.cell? ⟨blk, off + i * 3, none⟩ = some (.int .i64 (K i)) ∧ w.cell? ⟨blk, off + i * 3 + 1, none⟩ = some (.int .i64 (S i)) ∧ w.cell? ⟨blk, off + i * 3 + 2, none⟩ = some (B i) ∧ (Lit.int .i64 (S i)).wf = true ∧
    (∀ x ∈ X i, x < 256) ∧ Cells w (fun _ => True) (B i) (ints .u8 (X i))

set_option maxRecDepth 100000 in
theorem isOps_of {H : Type} {enc : TypeId × Value → H} {W : World} {held : Bool} {T E : TypeId} {f0 f1 f2 : Field} (hT : Tryd.prog.underlying T = some (.slice E)) (hE : Tryd.prog.underlying E = some (.struct #[f0, f1, f2]))
    (ce : Tryd.prog.cellsOf E = 3) (o0 : f0.offset = 0) (o1 : f1.offset = 1) (o2 : f2.offset = 2) (c0 : Tryd.prog.cellsOf f0.type = 1) (c1 : Tryd.prog.cellsOf f1.type = 1) (c2 : Tryd.prog.cellsOf f2.type = 1)
    (i0 : Tryd.prog.underlying f0.type = some (.int .i64)) (i1 : Tryd.prog.underlying f1.type = some (.int .i64)) (i2 : Tryd.prog.underlying f2.type = some (.slice 5))
    {a : Option Addr} {len cap : Nat} {d : DataW H} {p : List MemPlace}
    (h : DataW.Trod enc Tryd.prog W 0 (fun _ => true) held T (.slice a len cap) d p) : ∃ K S B X, IsOps W (.slice a len cap) len K S B X := by
  obtain ⟨fuel, hf⟩ := h
  rcases Go.Deep.open_slice hT hf with ⟨hcs, _⟩ | ⟨x, l, c, m, n, D, Pl, hcs, _, hl, hm, hmm, _, hr⟩
  · simp [Value.cells] at hcs
    obtain ⟨rfl, rfl, rfl⟩ := hcs
    exact ⟨fun _ => 0, fun _ => 0, fun _ => undef, fun _ => [], none, 0, rfl, Nat.le_refl _, Nat.zero_le _, fun i hi => by omega⟩
  · simp [Value.cells] at hcs
    obtain ⟨rfl, rfl, rfl⟩ := hcs
    simp only [if_true] at hmm
    have each : ∀ i, i < len → ∃ q : Int × Int × Value × List Nat, W.cell? (x.add (i * 3)) = some (.int .i64 q.1) ∧ W.cell? (x.add (i * 3 + 1)) = some (.int .i64 q.2.1) ∧ W.cell? (x.add (i * 3 + 2)) = some q.2.2.1 ∧ (Lit.int .i64 q.2.1).wf = true ∧
        (∀ y ∈ q.2.2.2, y < 256) ∧ Cells W (fun _ => True) q.2.2.1 (ints .u8 q.2.2.2) := by
      intro i hi
      obtain ⟨cs', h1, h2⟩ := hr i (by omega)
      rw [ce] at h1
      obtain ⟨_, hlen, hcell⟩ := World.cells?_some h1
      obtain ⟨xs, k, hk, hxy, _, hxl, hff⟩ := DataW.trod_struct hE h2
      match xs, hxl, cs', hlen with
      | [y0, y1, y2], _, [v0, v1, v2], _ =>
        have g0 := hff 0 f0 rfl
        have g1 := hff 1 f1 rfl
        have g2 := hff 2 f2 rfl
        simp [o0, o1, o2, c0, c1, c2] at g0 g1 g2
        have e0 := hcell 0 (by omega)
        have e1 := hcell 1 (by omega)
        have e2 := hcell 2 (by omega)
        rw [Go.Deep.add_add] at e0 e1 e2
        obtain ⟨z0, q0, _, _⟩ := DataW.trod_int i0 g0
        obtain ⟨z1, q1, _, w1⟩ := DataW.trod_int i1 g1
        simp only [List.cons.injEq, and_true] at q0 q1
        subst q0 q1
        have hv2 : ∃ a l c, v2 = .slice a l c := by
          rcases DataW.trod_slice i2 g2 with ⟨hc, _⟩ | ⟨a, l, c, _, _, _, _, hc, _⟩
          · simp only [List.cons.injEq, and_true] at hc; exact ⟨_, _, _, hc⟩
          · simp only [List.cons.injEq, and_true] at hc; exact ⟨_, _, _, hc⟩
        obtain ⟨a2, l2, c2', rfl⟩ := hv2
        obtain ⟨zs, hz⟩ := isRow_of (held := held) (enc := enc) (W := W) i2 Tryd.underlying5 (by kernel_rfl) ⟨k, g2⟩
        obtain ⟨ys, hy1, hy2⟩ := hz.bytes
        exact ⟨(z0, z1, .slice a2 l2 c2', ys), by simpa using e0, by simpa using e1, by simpa using e2, w1, hy1, hy2⟩
    obtain ⟨q, hq⟩ := Go.Deep.choose_lt each
    refine ⟨fun i => (q i).1, fun i => (q i).2.1, fun i => (q i).2.2.1, fun i => (q i).2.2.2, some x, cap, rfl, hl, hm, fun i hi => ?_⟩
    obtain ⟨h1, h2, h3, h4, h5, h6⟩ := hq i hi
    obtain ⟨h10, _⟩ := hq 0 (by omega)
    rw [Nat.zero_mul] at h10
    obtain ⟨blk, off, rfl⟩ := spot_none h10
    rw [addr_add] at h1 h2 h3
    refine ⟨blk, off, rfl, ?_, h1, h2, h3, h4, h5, h6⟩
    unfold World.cell? at h1
    simp at h1
    split at h1
    · rename_i hg
      exact (Array.getElem?_eq_some_iff.1 hg).1
    · cases h1
end Go.Proofs.YtjknjjcdgniodaaDoor
