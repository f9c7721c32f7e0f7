/-
  What the statements' rows give the walks: arguments that came in; the table of the turns; a world for the witness.
-/
import Derived.Test.YtnpneippahdigaaDoorRows
import Derived.Test.YtnpneippahdigaaDoorMixP
import Derived.WalkKit
import Derived.ProofKit
import Derived.OpenShut
import Derived.ShutString
import Derived.ChangeOld
import Derived.Deep.DeepHandedRow
import Derived.Lib.LaidTab
namespace Go.Proofs.YtnpneippahdigaaDoor
open Go.ChangeShapes Go.WideShapes Go.ChangeAt Go.RowKit Go.Proofs.Mem

theorem own : ownKnob Tryd.prog.godebug = none := by kernel_rfl
theorem laidOut : laidOutB Tryd.prog = true := by kernel_rfl
theorem gTab : Tryd.prog.globalNamed "stockade/digest.turns" = some 17 := by kernel_rfl
theorem gTabType : (Tryd.prog.globals[17]?).map (·.type) = some 206 := by kernel_rfl
theorem cellsA : Tryd.prog.cellsOf 206 = 64 := by kernel_rfl
theorem cellsE : Tryd.prog.cellsOf 142 = 1 := by kernel_rfl

/-- what a row's list gives, where the table stands first: the table lies. -/
theorem turns_laid {W : World} {rest : List (String × DataW Unit)} (h : laidMet Tryd.prog (("stockade/digest.turns", Rows.laid_stockade_digest_turns) :: rest) W) : TurnsAt W := by
  have ht : Lib.TabIs Tryd.prog W "stockade/digest.turns" .u32 (Sha.turns.map Int.ofNat) := Lib.tabIs_of_head (rest := rest) gTab gTabType Tryd.underlying206 Tryd.underlying142 cellsE cellsA h
  unfold Lib.TabIs World.var? at ht
  rw [gTab] at ht
  simp only [Option.bind_some] at ht
  split at ht
  · rename_i cs T fr hg
    refine ⟨T, fr, hg.trans ?_⟩
    rw [Option.some.inj ht]
    simp [ints, List.map_map, Function.comp_def]
  · cases ht

/-- a slice of whole numbers that came in: nil, or a row of cells. -/
def IsRow (k : IntKind) (w : World) (a : Option Addr) (len cap : Nat) (zs : List Int) : Prop :=
  (a = none ∧ len = 0 ∧ cap = 0 ∧ zs = []) ∨
  ∃ x, a = some x ∧ len ≤ cap ∧ cap ≤ maxLen ∧ zs.length = cap ∧ (∀ i, i < zs.length → w.cell? (x.add i) = some (.int k (zs.getD i 0))) ∧ ∀ n ∈ zs, (Lit.int k n).wf = true

theorem isRow_of {H : Type} {enc : TypeId × Value → H} {W : World} {held : Bool} {T E : TypeId} {k : IntKind} (hT : Tryd.prog.underlying T = some (.slice E)) (hE : Tryd.prog.underlying E = some (.int k)) (hc : Tryd.prog.cellsOf E = 1) {a : Option Addr} {len cap : Nat} {d : DataW H} {p : List MemPlace}
    (h : DataW.Trod enc Tryd.prog W 0 (fun _ => true) held T (.slice a len cap) d p) : ∃ zs, IsRow k W a len cap zs := by
  obtain ⟨fuel, hf⟩ := h
  rcases open_ints hT hE hc hf with ⟨hcs, _⟩ | ⟨x, l, c, zs, hcs, _, hl, hm, hz, _, hcell, hwz⟩
  · simp [Value.cells] at hcs
    obtain ⟨rfl, rfl, rfl⟩ := hcs
    exact ⟨[], .inl ⟨rfl, rfl, rfl, rfl⟩⟩
  · simp [Value.cells] at hcs
    obtain ⟨rfl, rfl, rfl⟩ := hcs
    exact ⟨zs, .inr ⟨_, rfl, hl, hm, by simpa using hz, hcell, hwz⟩⟩

/-- as a row of values. -/
theorem IsRow.cells {k : IntKind} {w : World} {a : Option Addr} {len cap : Nat} {zs : List Int} (h : IsRow k w a len cap zs) : (zs.take len).length = len ∧ Cells w (fun _ => True) (.slice a len cap) ((zs.take len).map (Value.int k)) := by
  rcases h with ⟨rfl, rfl, rfl, rfl⟩ | ⟨x, rfl, hl, hm, hz, hc, _⟩
  · exact ⟨rfl, Cells.nil _ _⟩
  · have hlen : (zs.take len).length = len := by rw [List.length_take]; omega
    refine ⟨hlen, _, _, _, rfl, by rw [List.length_map]; exact hlen.symm, hl, hm, fun h0 => ?_⟩
    obtain ⟨blk, off, spot⟩ := x
    have h1 := hc 0 (by omega)
    have hs : spot = none := by
      cases spot with
      | none => rfl
      | some s =>
        exfalso
        have : (⟨blk, off, some s⟩ : Addr).add 0 = ⟨blk, off, some s⟩ := by unfold Addr.add; rfl
        rw [this] at h1
        unfold World.cell? at h1
        simp at h1
        split at h1 <;> cases h1
    subst hs
    refine ⟨blk, off, rfl, trivial, fun i hi => ?_⟩
    rw [← addr_add, hc i (by omega), List.getElem?_map, List.getElem?_take, if_pos hi, List.getD_eq_getElem?_getD, List.getElem?_eq_getElem (show i < zs.length by omega)]
    rfl
/-- bytes. -/
theorem IsRow.bytes {w : World} {a : Option Addr} {len cap : Nat} {zs : List Int} (h : IsRow .u8 w a len cap zs) : ∃ xs : List Nat, (∀ x ∈ xs, x < 256) ∧ Cells w (fun _ => True) (.slice a len cap) (ints .u8 xs) := by
  have hw : ∀ n ∈ zs.take len, 0 ≤ n ∧ n < 256 := by
    intro n hn
    have hn' := List.mem_of_mem_take hn
    rcases h with ⟨_, _, _, rfl⟩ | ⟨_, _, _, _, _, _, hwf⟩
    · simp at hn'
    · have := hwf n hn'
      simp [Lit.wf, IntKind.min, IntKind.max, IntKind.signed, IntKind.bits] at this
      omega
  refine ⟨(zs.take len).map Int.toNat, ?_, ?_⟩
  · intro x hx
    obtain ⟨n, hn, rfl⟩ := List.mem_map.1 hx
    have := hw n hn
    omega
  · have e : ints .u8 ((zs.take len).map Int.toNat) = (zs.take len).map (Value.int .u8) := by
      unfold ints
      rw [List.map_map]
      apply List.map_congr_left
      intro n hn
      have := (hw n hn).1
      simp only [Function.comp]
      congr 1
      exact Int.toNat_of_nonneg this
    rw [e]
    exact h.cells.2

/-- a world for the witness: the settled one, the table laid. -/
noncomputable def laidWorld (os : Os) : World :=
  { World.holding Tryd.prog os ⟨#[], #[], []⟩ with heap := (World.holding Tryd.prog os ⟨#[], #[], []⟩).heap.modify 17 fun
      | .cells _ t frozen => .cells (ints .u32 Sha.turns).toArray t frozen
      | o => o }
end Go.Proofs.YtnpneippahdigaaDoor
