/-
  What the statements' rows give the walks: a slice of slices of bytes that came in.
-/
import Derived.Test.YtnpneippahdigaaDoorIn
import Derived.Deep.Matrix
namespace Go.Proofs.YtnpneippahdigaaDoor
open Go.ChangeShapes Go.WideShapes Go.ChangeAt Go.RowKit Go.Proofs.Mem

theorem spot_none {w : World} {x : Addr} {v : Value} (h : w.cell? (x.add 0) = some v) : ∃ blk off, x = ⟨blk, off, none⟩ := by
  obtain ⟨blk, off, spot⟩ := x
  cases spot with
  | none => exact ⟨blk, off, rfl⟩
  | some s =>
    exfalso
    have e : (⟨blk, off, some s⟩ : Addr).add 0 = ⟨blk, off, some s⟩ := by unfold Addr.add; rfl
    rw [e] at h
    unfold World.cell? at h
    simp at h
    split at h <;> cases h

/-- a slice's cells, read one by one. -/
theorem cells_of_reads {w : World} {a : Option Addr} {len cap : Nat} (vs : List Value) (hl : vs.length = len) (hlc : len ≤ cap) (hm : cap ≤ maxLen) (h : 0 < len → ∃ x, a = some x ∧ ∀ i v, vs[i]? = some v → w.cell? (x.add i) = some v) : Cells w (fun _ => True) (.slice a len cap) vs := by
  refine ⟨a, len, cap, rfl, hl.symm, hlc, hm, fun h0 => ?_⟩
  obtain ⟨x, rfl, hx⟩ := h h0
  obtain ⟨blk, off, rfl⟩ := spot_none (hx 0 _ (List.getElem?_eq_getElem (by omega)))
  refine ⟨blk, off, rfl, trivial, fun i hi => ?_⟩
  have := hx i _ (List.getElem?_eq_getElem (by omega))
  rw [addr_add] at this
  rw [this, List.getElem?_eq_getElem]

/-- a slice of slices of bytes. -/
def IsRows (w : World) (v : Value) (vs : List Value) (xss : List (List Nat)) : Prop :=
  Cells w (fun _ => True) v vs ∧ vs.length = xss.length ∧ ∀ r, r < vs.length → (∀ x ∈ xss.getD r [], x < 256) ∧ Cells w (fun _ => True) (vs.getD r undef) (ints .u8 (xss.getD r []))

theorem isRows_of {H : Type} {enc : TypeId × Value → H} {W : World} {held : Bool} {a : Option Addr} {len cap : Nat} {d : DataW H} {p : List MemPlace}
    (h : DataW.Trod enc Tryd.prog W 0 (fun _ => true) held 69 (.slice a len cap) d p) : ∃ vs xss, IsRows W (.slice a len cap) vs xss := by
  obtain ⟨fuel, hf⟩ := h
  rcases Go.Deep.open_int_rows Tryd.underlying69 Tryd.underlying32 Tryd.underlying5 (by kernel_rfl) (by kernel_rfl) hf with ⟨hcs, _⟩ | ⟨x, l, c, A, L, C, Z, hcs, _, hl, hm, _, hr⟩
  · simp [Value.cells] at hcs
    obtain ⟨rfl, rfl, rfl⟩ := hcs
    exact ⟨[], [], Cells.nil _ _, rfl, fun r hr => by simp at hr⟩
  · simp [Value.cells] at hcs
    obtain ⟨rfl, rfl, rfl⟩ := hcs
    have each : ∀ r, r < len → ∃ xs : List Nat, (∀ x ∈ xs, x < 256) ∧ Cells W (fun _ => True) (.slice (A r) (L r) (C r)) (ints .u8 xs) := by
      intro r hr'
      obtain ⟨_, h2, h3, h4, h5, h6, h7⟩ := hr r (by omega)
      have hi : IsRow .u8 W (A r) (L r) (C r) (Z r) := by
        cases hA : A r with
        | none =>
          have hc := h6 hA
          exact .inl ⟨rfl, by omega, hc, List.eq_nil_of_length_eq_zero (by omega)⟩
        | some a' =>
          have hg := h7 a' hA
          exact .inr ⟨a', rfl, h2, h3, h4, fun i hi => hg.2 i (by omega), h5⟩
      exact hi.bytes
    refine ⟨(List.range len).map fun r => .slice (A r) (L r) (C r), (List.range len).map fun r => if hr : r < len then Classical.choose (each r hr) else [], ?_, by simp, ?_⟩
    · refine cells_of_reads _ (by simp) hl hm (fun h0 => ⟨x, rfl, fun i v hv => ?_⟩)
      rw [List.getElem?_map] at hv
      obtain ⟨j, hj, rfl⟩ := Option.map_eq_some_iff.1 hv
      obtain ⟨hlt, he⟩ := List.getElem?_eq_some_iff.1 hj
      simp only [List.length_range] at hlt
      simp only [List.getElem_range] at he
      subst he
      exact (hr i (by omega)).1
    · intro r hr'
      simp only [List.length_map, List.length_range] at hr'
      have e1 : ((List.range len).map fun r => if hr : r < len then Classical.choose (each r hr) else []).getD r [] = Classical.choose (each r hr') := by
        rw [List.getD_eq_getElem?_getD, List.getElem?_map, List.getElem?_range hr']
        simp [hr']
      have e2 : ((List.range len).map fun r => (Value.slice (A r) (L r) (C r))).getD r undef = .slice (A r) (L r) (C r) := by
        rw [List.getD_eq_getElem?_getD, List.getElem?_map, List.getElem?_range hr']
        rfl
      rw [e1, e2]
      exact Classical.choose_spec (each r hr')
end Go.Proofs.YtnpneippahdigaaDoor
