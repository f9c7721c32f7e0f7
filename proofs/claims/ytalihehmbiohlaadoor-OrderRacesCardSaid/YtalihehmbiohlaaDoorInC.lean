/-
  What the statements' rows of layer 18 give the walks: events that came in, numbers, errors' variables; worlds for the witness.
-/
import Derived.Test.YtalihehmbiohlaaDoorRows
import Derived.Test.YtalihehmbiohlaaDoorErrs
import Derived.Test.YtalihehmbiohlaaDoorOrdE
import Derived.WalkKit
import Derived.ProofKit
import Derived.OpenShut
import Derived.ShutString
import Derived.ChangeOld
import Derived.Deep.DeepHandedRow
import Derived.Deep.Slices
namespace Go.Proofs.YtalihehmbiohlaaDoor
open Go.ChangeShapes Go.WideShapes Go.ChangeAt Go.RowKit Go.Proofs.Mem Go.Proofs.Ord

theorem own : ownKnob Tryd.prog.godebug = none := by kernel_rfl
theorem laidOut : laidOutB Tryd.prog = true := by kernel_rfl

/-- a slice of whole numbers that came in: nil, or a row of cells. -/
def IsRow (k : IntKind) (w : World) (a : Option Addr) (len cap : Nat) (zs : List Int) : Prop :=
  (a = none ∧ len = 0 ∧ cap = 0 ∧ zs = []) ∨
  ∃ x, a = some x ∧ len ≤ cap ∧ cap ≤ maxLen ∧ zs.length = cap ∧ (∀ i, i < zs.length → w.cell? (x.add i) = some (.int k (zs.getD i 0))) ∧ ∀ n ∈ zs, (Lit.int k n).wf = true

theorem isRow_of {H : Type} {enc : TypeId × Value → H} {W : World} {held : Bool} {T E : TypeId} {k : IntKind} (hT : Tryd.prog.underlying T = some (.slice E)) (hE : Tryd.prog.underlying E = some (.int k)) (hc : Tryd.prog.cellsOf E = 1) {a : Option Addr} {len cap : Nat} {d : DataW H} {p : List MemPlace}
    (h : DataW.Trod enc Tryd.prog W 0 (fun _ => true) held T (.slice a len cap) d p) : ∃ zs, IsRow k W a len cap zs := by
  obtain ⟨fuel, hf⟩ := h
  rcases open_ints hT hE hc hf with ⟨hcs, _⟩ | ⟨x, l, c, zs, hcs, _, hl, hm, hz, _, hcell, hwz⟩
  · simp [Value.cells] at hcs
    obtain ⟨rfl, rfl, rfl⟩ := hcs
    exact ⟨[], .inl ⟨rfl, rfl, rfl, rfl⟩⟩
  · simp [Value.cells] at hcs
    obtain ⟨rfl, rfl, rfl⟩ := hcs
    exact ⟨zs, .inr ⟨_, rfl, hl, hm, by simpa using hz, hcell, hwz⟩⟩

/-- as a row of values. -/
theorem IsRow.cells {k : IntKind} {w : World} {a : Option Addr} {len cap : Nat} {zs : List Int} (h : IsRow k w a len cap zs) : (zs.take len).length = len ∧ Cells w (fun _ => True) (.slice a len cap) ((zs.take len).map (Value.int k)) := by
  rcases h with ⟨rfl, rfl, rfl, rfl⟩ | ⟨x, rfl, hl, hm, hz, hc, _⟩
  · exact ⟨rfl, Cells.nil _ _⟩
  · have hlen : (zs.take len).length = len := by rw [List.length_take]; omega
    refine ⟨hlen, _, _, _, rfl, by rw [List.length_map]; exact hlen.symm, hl, hm, fun h0 => ?_⟩
    obtain ⟨blk, off, spot⟩ := x
    have h1 := hc 0 (by omega)
    have hs : spot = none := by
      cases spot with
      | none => rfl
      | some s =>
        exfalso
        have : (⟨blk, off, some s⟩ : Addr).add 0 = ⟨blk, off, some s⟩ := by unfold Addr.add; rfl
        rw [this] at h1
        unfold World.cell? at h1
        simp at h1
        split at h1 <;> cases h1
    subst hs
    refine ⟨blk, off, rfl, trivial, fun i hi => ?_⟩
    rw [← addr_add, hc i (by omega), List.getElem?_map, List.getElem?_take, if_pos hi, List.getD_eq_getElem?_getD, List.getElem?_eq_getElem (show i < zs.length by omega)]
    rfl
/-- the errors' texts. -/
def errTexts : List (String × List UInt8) := [
  ("stockade/api.ErrRange", [115, 116, 111, 99, 107, 97, 100, 101, 58, 32, 114, 97, 110, 103, 101]),
  ("stockade/api.ErrText", [115, 116, 111, 99, 107, 97, 100, 101, 58, 32, 116, 101, 120, 116]),
  ("stockade/api.ErrDepth", [115, 116, 111, 99, 107, 97, 100, 101, 58, 32, 100, 101, 112, 116, 104]),
  ("stockade/api.ErrName", [115, 116, 111, 99, 107, 97, 100, 101, 58, 32, 110, 97, 109, 101]),
  ("stockade/api.ErrType", [115, 116, 111, 99, 107, 97, 100, 101, 58, 32, 116, 121, 112, 101]),
  ("stockade/api.ErrLarge", [115, 116, 111, 99, 107, 97, 100, 101, 58, 32, 108, 97, 114, 103, 101]),
  ("stockade/api.ErrFull", [115, 116, 111, 99, 107, 97, 100, 101, 58, 32, 102, 117, 108, 108]),
  ("stockade/api.ErrNone", [115, 116, 111, 99, 107, 97, 100, 101, 58, 32, 110, 111, 110, 101]),
  ("stockade/api.ErrCode", [115, 116, 111, 99, 107, 97, 100, 101, 58, 32, 99, 111, 100, 101]),
  ("stockade/api.ErrState", [115, 116, 111, 99, 107, 97, 100, 101, 58, 32, 115, 116, 97, 116, 101]),
  ("stockade/api.ErrFrame", [115, 116, 111, 99, 107, 97, 100, 101, 58, 32, 102, 114, 97, 109, 101]),
  ("stockade/api.ErrMac", [115, 116, 111, 99, 107, 97, 100, 101, 58, 32, 109, 97, 99]),
  ("stockade/api.ErrReplay", [115, 116, 111, 99, 107, 97, 100, 101, 58, 32, 114, 101, 112, 108, 97, 121]),
  ("stockade/api.ErrArena", [115, 116, 111, 99, 107, 97, 100, 101, 58, 32, 97, 114, 101, 110, 97]),
  ("stockade/api.ErrClock", [115, 116, 111, 99, 107, 97, 100, 101, 58, 32, 99, 108, 111, 99, 107]),
  ("stockade/api.ErrQuota", [115, 116, 111, 99, 107, 97, 100, 101, 58, 32, 113, 117, 111, 116, 97]),
  ("stockade/api.ErrTenant", [115, 116, 111, 99, 107, 97, 100, 101, 58, 32, 116, 101, 110, 97, 110, 116])]
def errGs : List Nat := [0, 1, 2, 3, 4, 5, 6, 7, 8, 9, 10, 11, 12, 13, 14, 15, 16]
theorem errGs_named : (errTexts.map fun e => Tryd.prog.globalNamed e.1) = errGs.map some := by kernel_rfl
theorem errGs_type : ∀ g ∈ errGs, (Tryd.prog.globals[g]?).map (·.type) = some 28 := by
  have h : errGs.all (fun g => decide ((Tryd.prog.globals[g]?).map (·.type) = some 28)) = true := by kernel_rfl
  intro g hg
  exact of_decide_eq_true (List.all_eq_true.1 h g hg)

/-- out of a row's list, where errors' variables stand alone. -/
theorem errs_laid0 {W : World} (k : Nat) (h : laidMet Tryd.prog ((errTexts.take k).map fun e => (e.1, errD e.2)) W) : ∃ xs : List Addr, ErrsAt W (errGs.take k) xs ∧ xs.Nodup := by
  obtain ⟨ps, hq, hnd, hrows⟩ := h
  obtain ⟨xs, h1, h2, _⟩ := errs_of_list (W := W) (errTexts.take k) (errGs.take k) ps
    (by rw [List.map_take, errGs_named, List.map_take]) (fun g hg => errGs_type g (List.mem_of_mem_take hg)) hq hnd (fun b off hb => hrows b off hb)
  exact ⟨xs, h1, h2⟩


theorem IsRow.le64 {w : World} {a : Option Addr} {len cap : Nat} {zs : List Int} (h : IsRow .i64 w a len cap zs) : ∀ x ∈ zs.take len, x ≤ 9223372036854775807 := by
  intro n hn
  have hn' := List.mem_of_mem_take hn
  rcases h with ⟨_, _, _, rfl⟩ | ⟨_, _, _, _, _, _, hwf⟩
  · simp at hn'
  · have := hwf n hn'
    simp [Lit.wf, IntKind.min, IntKind.max, IntKind.signed, IntKind.bits] at this
    omega

noncomputable def low : Nat := (World.holding Tryd.prog default ⟨#[], #[], []⟩).heap.size
/-- a world for the witness: the settled one and the first k errors. -/
noncomputable def laidWorldC (k : Nat) (os : Os) : World :=
  let w0 := World.holding Tryd.prog os ⟨((errTexts.take k).map fun e => Obj.cells #[.string ⟨e.2.toArray⟩] 158).toArray, #[], []⟩
  { w0 with heap := (errGs.take k).zipIdx.foldl (fun h x => h.modify x.1 fun
      | .cells _ t frozen => .cells #[.iface 133 (.pointer (some ⟨low + x.2, 0, none⟩))] t frozen
      | o => o) w0.heap }
theorem err0_laid {W : World} (h : laidMet Tryd.prog ((errTexts.take 1).map fun e => (e.1, errD e.2)) W) : ∃ a : Addr, ErrAt W 0 a := by
  obtain ⟨xs, h1, _⟩ := errs_laid0 1 h
  match xs, h1 with
  | [a], h1 => exact ⟨a, h1.1⟩
theorem spot_none {w : World} {x : Addr} {v : Value} (h : w.cell? (x.add 0) = some v) : ∃ blk off, x = ⟨blk, off, none⟩ := by
  obtain ⟨blk, off, spot⟩ := x
  cases spot with
  | none => exact ⟨blk, off, rfl⟩
  | some s =>
    exfalso
    have e : (⟨blk, off, some s⟩ : Addr).add 0 = ⟨blk, off, some s⟩ := by unfold Addr.add; rfl
    rw [e] at h
    unfold World.cell? at h
    simp at h
    split at h <;> cases h
theorem ev_under : ∃ f0 f1 f2 f3 : Field, Tryd.prog.underlying 25 = some (.struct #[f0, f1, f2, f3]) ∧ (f0.offset = 0 ∧ f1.offset = 1 ∧ f2.offset = 2 ∧ f3.offset = 3) ∧
    f0.type = 3 ∧ f1.type = 3 ∧ f2.type = 3 ∧ f3.type = 3 := ⟨_, _, _, _, Tryd.underlying25, ⟨rfl, rfl, rfl, rfl⟩, rfl, rfl, rfl, rfl⟩
/-- whole numbers, each of them. -/
def Ev.inRange (e : Ev) : Prop := (Lit.int .i64 e.g).wf = true ∧ (Lit.int .i64 e.kd).wf = true ∧ (Lit.int .i64 e.obj).wf = true ∧ (Lit.int .i64 e.at_).wf = true
set_option maxRecDepth 100000 in
theorem isEvs_of {H : Type} {enc : TypeId × Value → H} {W : World} {held : Bool} {a : Option Addr} {len cap : Nat} {d : DataW H} {p : List MemPlace}
    (h : DataW.Trod enc Tryd.prog W 0 (fun _ => true) held 22 (.slice a len cap) d p) : ∃ l : List Ev, EvsAt W (fun _ => True) (.slice a len cap) l ∧ ∀ e ∈ l, Ev.inRange e := by
  obtain ⟨f0, f1, f2, f3, hE, ⟨o0, o1, o2, o3⟩, e0, e1, e2, e3⟩ := ev_under
  obtain ⟨fuel, hf⟩ := h
  rcases Go.Deep.open_slice Tryd.underlying22 hf with ⟨hcs, _⟩ | ⟨x, l, c, m, n, D, Pl, hcs, _, hl, hm, hmm, _, hr⟩
  · simp [Value.cells] at hcs
    obtain ⟨rfl, rfl, rfl⟩ := hcs
    exact ⟨[], EvsAt.nil _ _, fun e he => by cases he⟩
  · simp [Value.cells] at hcs
    obtain ⟨rfl, rfl, rfl⟩ := hcs
    simp only [if_true] at hmm
    have cI : Tryd.prog.cellsOf 3 = 1 := by kernel_rfl
    have each : ∀ i, i < len → ∃ q : Ev, (∀ j v, (evC q)[j]? = some v → W.cell? (x.add (i * 4 + j)) = some v) ∧ Ev.inRange q := by
      intro i hi
      obtain ⟨cs', h1, h2⟩ := hr i (by omega)
      rw [show Tryd.prog.cellsOf 25 = 4 by kernel_rfl] at h1
      obtain ⟨_, hlen, hcell⟩ := World.cells?_some h1
      obtain ⟨xs, k, hk, hxy, _, hxl, hff⟩ := DataW.trod_struct hE h2
      match xs, hxl, cs', hlen with
      | [y0, y1, y2, y3], _, [v0, v1, v2, v3], _ =>
        have g0 := hff 0 f0 rfl
        have g1 := hff 1 f1 rfl
        have g2 := hff 2 f2 rfl
        have g3 := hff 3 f3 rfl
        simp [o0, o1, o2, o3, e0, e1, e2, e3, cI] at g0 g1 g2 g3
        obtain ⟨z0, q0, _, w0⟩ := DataW.trod_int Tryd.underlying3 g0
        obtain ⟨z1, q1, _, w1⟩ := DataW.trod_int Tryd.underlying3 g1
        obtain ⟨z2, q2, _, w2⟩ := DataW.trod_int Tryd.underlying3 g2
        obtain ⟨z3, q3, _, w3⟩ := DataW.trod_int Tryd.underlying3 g3
        simp only [List.cons.injEq, and_true] at q0 q1 q2 q3
        subst q0 q1 q2 q3
        refine ⟨⟨z0, z1, z2, z3⟩, fun j v hv => ?_, w0, w1, w2, w3⟩
        have hj : j < 4 := by
          rcases Nat.lt_or_ge j 4 with h | h
          · exact h
          · rw [List.getElem?_eq_none (by simpa [evC] using h)] at hv; cases hv
        have ej := hcell j (by simpa using hj)
        rw [Go.Deep.add_add] at ej
        rw [ej]
        exact hv
    haveI : Inhabited Ev := ⟨⟨0, 0, 0, 0⟩⟩
    obtain ⟨q, hq⟩ := Go.Deep.choose_lt each
    have hin : ∀ e ∈ (List.range len).map q, Ev.inRange e := by
      intro e he
      obtain ⟨i, hi, rfl⟩ := List.mem_map.1 he
      exact (hq i (List.mem_range.1 hi)).2
    refine ⟨(List.range len).map q, ⟨some x, len, cap, rfl, by simp, hl, hm, fun i y hy => ?_⟩, hin⟩
    have hi : i < len := by
      rcases Nat.lt_or_ge i len with h | h
      · exact h
      · rw [List.getElem?_eq_none (by simpa using h)] at hy; cases hy
    rw [List.getElem?_map, List.getElem?_range hi, Option.map_some] at hy
    obtain rfl := Option.some.inj hy
    have h1 := (hq i hi).1
    have h10 := (hq 0 (by omega)).1
    have h100 := h10 0 _ rfl
    rw [Nat.zero_mul, Nat.zero_add] at h100
    obtain ⟨blk, off, rfl⟩ := spot_none h100
    refine ⟨blk, off, rfl, trivial, fun j v hv => ?_⟩
    have := h1 j v hv
    rw [addr_add, ← Nat.add_assoc] at this
    exact this
end Go.Proofs.YtalihehmbiohlaaDoor
