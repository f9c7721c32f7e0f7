/-
  What the statements' rows give the walks: a slice of frames to be sent, that came in.
-/
import Derived.Test.YtnpneippahdigaaDoorIn2
import Derived.Test.YtnpneippahdigaaDoorIn3
import Derived.Test.YtnpneippahdigaaDoorWireV
import Derived.Deep.Slices
namespace Go.Proofs.YtnpneippahdigaaDoor
open Go.ChangeShapes Go.WideShapes Go.ChangeAt Go.RowKit Go.Proofs.Mem

/-- what a 'Send' holds. -/
abbrev SendIn : Type := Int × Int × Int × Value × List Nat × Int
def SendIn.cells (q : SendIn) : List Value := sdC q.1 q.2.1 q.2.2.1 q.2.2.2.1 q.2.2.2.2.2
/-- a slice of 'Send's. -/
def IsSends (w : World) (v : Value) (len : Nat) (S : Nat → SendIn) : Prop :=
  ∃ a cap, v = .slice a len cap ∧ len ≤ cap ∧ cap ≤ maxLen ∧ ∀ i, i < len → ∃ blk off, a = some ⟨blk, off, none⟩ ∧ blk < w.heap.size ∧
    w.rangeAt blk (off + i * 5) (S i).cells ∧ (Lit.int .i64 (S i).2.1).wf = true ∧ (Lit.int .i64 (S i).2.2.2.2.2).wf = true ∧ (∀ x ∈ (S i).2.2.2.2.1, x < 256) ∧ Cells w (fun _ => True) (S i).2.2.2.1 (ints .u8 (S i).2.2.2.2.1)

theorem send_under : ∃ f0 f1 f2 f3 f4 : Field, Tryd.prog.underlying 80 = some (.struct #[f0, f1, f2, f3, f4]) ∧ (f0.offset = 0 ∧ f1.offset = 1 ∧ f2.offset = 2 ∧ f3.offset = 3 ∧ f4.offset = 4) ∧
    f0.type = 3 ∧ f1.type = 3 ∧ f2.type = 3 ∧ f3.type = 32 ∧ f4.type = 3 := ⟨_, _, _, _, _, Tryd.underlying80, ⟨rfl, rfl, rfl, rfl, rfl⟩, rfl, rfl, rfl, rfl, rfl⟩

set_option maxRecDepth 100000 in
theorem isSends_of {H : Type} {enc : TypeId × Value → H} {W : World} {held : Bool} {a : Option Addr} {len cap : Nat} {d : DataW H} {p : List MemPlace}
    (h : DataW.Trod enc Tryd.prog W 0 (fun _ => true) held 72 (.slice a len cap) d p) : ∃ S, IsSends W (.slice a len cap) len S := by
  obtain ⟨f0, f1, f2, f3, f4, hE, ⟨o0, o1, o2, o3, o4⟩, e0, e1, e2, e3, e4⟩ := send_under
  obtain ⟨fuel, hf⟩ := h
  rcases Go.Deep.open_slice Tryd.underlying72 hf with ⟨hcs, _⟩ | ⟨x, l, c, m, n, D, Pl, hcs, _, hl, hm, hmm, _, hr⟩
  · simp [Value.cells] at hcs
    obtain ⟨rfl, rfl, rfl⟩ := hcs
    exact ⟨fun _ => (0, 0, 0, undef, [], 0), none, 0, rfl, Nat.le_refl _, Nat.zero_le _, fun i hi => by omega⟩
  · simp [Value.cells] at hcs
    obtain ⟨rfl, rfl, rfl⟩ := hcs
    simp only [if_true] at hmm
    have cI : Tryd.prog.cellsOf 3 = 1 := by kernel_rfl
    have cB : Tryd.prog.cellsOf 32 = 1 := by kernel_rfl
    have each : ∀ i, i < len → ∃ q : SendIn, (∀ j v, q.cells[j]? = some v → W.cell? (x.add (i * 5 + j)) = some v) ∧ (Lit.int .i64 q.2.1).wf = true ∧ (Lit.int .i64 q.2.2.2.2.2).wf = true ∧ (∀ y ∈ q.2.2.2.2.1, y < 256) ∧ Cells W (fun _ => True) q.2.2.2.1 (ints .u8 q.2.2.2.2.1) := by
      intro i hi
      obtain ⟨cs', h1, h2⟩ := hr i (by omega)
      rw [show Tryd.prog.cellsOf 80 = 5 by kernel_rfl] at h1
      obtain ⟨_, hlen, hcell⟩ := World.cells?_some h1
      obtain ⟨xs, k, hk, hxy, _, hxl, hff⟩ := DataW.trod_struct hE h2
      match xs, hxl, cs', hlen with
      | [y0, y1, y2, y3, y4], _, [v0, v1, v2, v3, v4], _ =>
        have g0 := hff 0 f0 rfl
        have g1 := hff 1 f1 rfl
        have g2 := hff 2 f2 rfl
        have g3 := hff 3 f3 rfl
        have g4 := hff 4 f4 rfl
        simp [o0, o1, o2, o3, o4, e0, e1, e2, e3, e4, cI, cB] at g0 g1 g2 g3 g4
        obtain ⟨z0, q0, _, _⟩ := DataW.trod_int Tryd.underlying3 g0
        obtain ⟨z1, q1, _, w1⟩ := DataW.trod_int Tryd.underlying3 g1
        obtain ⟨z2, q2, _, _⟩ := DataW.trod_int Tryd.underlying3 g2
        obtain ⟨z4, q4, _, w4⟩ := DataW.trod_int Tryd.underlying3 g4
        simp only [List.cons.injEq, and_true] at q0 q1 q2 q4
        subst q0 q1 q2 q4
        have hv3 : ∃ a l c, v3 = .slice a l c := by
          rcases DataW.trod_slice Tryd.underlying32 g3 with ⟨hc, _⟩ | ⟨a, l, c, _, _, _, _, hc, _⟩
          · simp only [List.cons.injEq, and_true] at hc; exact ⟨_, _, _, hc⟩
          · simp only [List.cons.injEq, and_true] at hc; exact ⟨_, _, _, hc⟩
        obtain ⟨a3, l3, c3, rfl⟩ := hv3
        obtain ⟨zs, hz⟩ := isRow_of (held := held) (enc := enc) (W := W) Tryd.underlying32 Tryd.underlying5 (by kernel_rfl) ⟨k, g3⟩
        obtain ⟨ys, hy1, hy2⟩ := hz.bytes
        refine ⟨(z0, z1, z2, .slice a3 l3 c3, ys, z4), fun j v hv => ?_, w1, w4, hy1, hy2⟩
        have hj : j < 5 := by
          rcases Nat.lt_or_ge j 5 with h | h
          · exact h
          · rw [List.getElem?_eq_none (by simpa [SendIn.cells, sdC] using h)] at hv; cases hv
        have ej := hcell j (by simpa using hj)
        rw [Go.Deep.add_add] at ej
        rw [ej]
        exact hv
    obtain ⟨q, hq⟩ := Go.Deep.choose_lt each
    refine ⟨q, some x, cap, rfl, hl, hm, fun i hi => ?_⟩
    obtain ⟨h1, h2, h3, h4, h5⟩ := hq i hi
    obtain ⟨h10, _⟩ := hq 0 (by omega)
    have h100 := h10 0 _ rfl
    rw [Nat.zero_mul, Nat.zero_add] at h100
    obtain ⟨blk, off, rfl⟩ := spot_none h100
    refine ⟨blk, off, rfl, ?_, fun j v hv => ?_, h2, h3, h4, h5⟩
    · rw [addr_add] at h100
      exact World.block_lt_of_cell? W _ h100
    · have := h1 j v hv
      rw [addr_add, ← Nat.add_assoc] at this
      exact this
end Go.Proofs.YtnpneippahdigaaDoor
