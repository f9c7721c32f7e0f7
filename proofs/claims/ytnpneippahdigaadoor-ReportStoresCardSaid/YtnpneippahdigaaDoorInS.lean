/-
  What the row of ReportStores gives the walk: calls on a store that came in.
-/
import Derived.Test.YtnpneippahdigaaDoorIn9
namespace Go.Proofs.YtnpneippahdigaaDoor
open Go.ChangeShapes Go.WideShapes Go.ChangeAt Go.RowKit Go.Proofs.Mem

set_option maxRecDepth 100000 in
theorem isRep_cells {H : Type} {enc : TypeId × Value → H} {W : World} {held : Bool} {cs : Array Value} {d : DataW H} {p : List MemPlace} (hsz : cs.size = 7)
    (h : DataW.Trod enc Tryd.prog W 0 (fun _ => true) held 26 (.agg cs) d p) :
    ∃ (r : Rp.Rep) (rv : Value), cs = (rpC r rv).toArray ∧ RacesAt W (fun _ => True) rv r.races ∧ (Lit.int .i64 r.n).wf = true := by
  obtain ⟨f0, f1, f2, hs, ⟨o0, o1, o2⟩, e0, e1, e2⟩ := rep_under
  obtain ⟨fuel, hf⟩ := h
  obtain ⟨xs, m, _, _, _, hxl, hff⟩ := DataW.trod_struct hs hf
  match xs, hxl with
  | [y0, y1, y2], _ =>
    have g0 := hff 0 f0 rfl
    have g1 := hff 1 f1 rfl
    have g2 := hff 2 f2 rfl
    rw [o0, e0, show Tryd.prog.cellsOf 23 = 5 by kernel_rfl] at g0
    rw [o1, e1, show Tryd.prog.cellsOf 3 = 1 by kernel_rfl] at g1
    rw [o2, e2, show Tryd.prog.cellsOf 24 = 1 by kernel_rfl] at g2
    have hcs : (Value.agg cs).cells = cs := rfl
    rw [hcs] at g0 g1 g2
    obtain ⟨o, f, g, n, at_, q0, wn⟩ := isEnd_of g0
    obtain ⟨st, q1, _, _⟩ := DataW.trod_int Tryd.underlying3 g1
    have hv3 : ∃ a l c, (List.take 1 (List.drop 6 cs.toList)) = [Value.slice a l c] := by
      rcases DataW.trod_slice Tryd.underlying24 g2 with ⟨hc, _⟩ | ⟨a, l, c, _, _, _, _, hc, _⟩
      · exact ⟨_, _, _, hc⟩
      · exact ⟨_, _, _, hc⟩
    obtain ⟨a3, l3, c3, q3⟩ := hv3
    rw [q3] at g2
    obtain ⟨l, hl⟩ := isRaces_of (held := held) (enc := enc) (W := W) ⟨m, g2⟩
    refine ⟨⟨o, f, g, n, at_, st, l⟩, .slice a3 l3 c3, ?_, hl, wn⟩
    apply Array.ext'
    have hlen : cs.toList.length = 7 := by simpa using hsz
    have cot : ∀ {o : Nat} {v : Value}, List.take 1 (List.drop o cs.toList) = [v] → cs.toList[o]? = some v := fun {o v} h => by
      have : (List.take 1 (List.drop o cs.toList))[0]? = some v := by rw [h]; rfl
      rwa [List.getElem?_take, if_pos (by decide), List.getElem?_drop] at this
    apply List.ext_getElem?
    intro i
    by_cases hi : i < 7
    · have hc : i < 5 ∨ i = 5 ∨ i = 6 := by omega
      rcases hc with hc | rfl | rfl
      · have e := q0 i hc
        simp only [List.drop_zero, List.getElem?_take, if_pos hc] at e
        rw [e]
        unfold rpC
        rw [List.toList_toArray, List.getElem?_append_left (by simpa [endC] using hc)]
      · exact cot q1
      · exact cot q3
    · rw [List.getElem?_eq_none (by omega), List.getElem?_eq_none (by simp [rpC, endC]; omega)]

/-- a call on a store: what it is, a number, a report. -/
structure OpIn where
  kd : Int
  n : Int
  r : Rp.Rep
  rv : Value
def opC (x : OpIn) : List Value := [.int .i64 x.kd, .int .i64 x.n] ++ rpC x.r x.rv
theorem op_size (x : OpIn) : (Tryd.prog.info? 109).map (·.size) = some (opC x).length := by
  show _ = some 9
  kernel_rfl
/-- a slice of calls. -/
def OpsAt (w : World) (v : Value) (l : List OpIn) : Prop :=
  ∃ a len cap, v = .slice a len cap ∧ len = l.length ∧ len ≤ cap ∧ cap ≤ maxLen ∧ ∀ i x, l[i]? = some x → (∃ blk off, a = some ⟨blk, off, none⟩ ∧ w.rangeAt blk (off + i * 9) (opC x)) ∧ RacesAt w (fun _ => True) x.rv x.r.races ∧ (Lit.int .i64 x.n).wf = true
theorem op_under : ∃ f0 f1 f2 : Field, Tryd.prog.underlying 109 = some (.struct #[f0, f1, f2]) ∧ (f0.offset = 0 ∧ f1.offset = 1 ∧ f2.offset = 2) ∧
    f0.type = 3 ∧ f1.type = 3 ∧ f2.type = 26 := ⟨_, _, _, Tryd.underlying109, ⟨rfl, rfl, rfl⟩, rfl, rfl, rfl⟩
set_option maxRecDepth 100000 in
theorem isOps20_of {H : Type} {enc : TypeId × Value → H} {W : World} {held : Bool} {a : Option Addr} {len cap : Nat} {d : DataW H} {p : List MemPlace}
    (h : DataW.Trod enc Tryd.prog W 0 (fun _ => true) held 106 (.slice a len cap) d p) : ∃ l : List OpIn, OpsAt W (.slice a len cap) l := by
  obtain ⟨f0, f1, f2, hE, ⟨o0, o1, o2⟩, e0, e1, e2⟩ := op_under
  obtain ⟨fuel, hf⟩ := h
  rcases Go.Deep.open_slice Tryd.underlying106 hf with ⟨hcs, _⟩ | ⟨x, l, c, m, n, D, Pl, hcs, _, hl, hm, hmm, _, hr⟩
  · simp [Value.cells] at hcs
    obtain ⟨rfl, rfl, rfl⟩ := hcs
    exact ⟨[], none, 0, 0, rfl, rfl, Nat.le_refl _, Nat.zero_le _, fun i x h => by simp at h⟩
  · simp [Value.cells] at hcs
    obtain ⟨rfl, rfl, rfl⟩ := hcs
    simp only [if_true] at hmm
    have cI : Tryd.prog.cellsOf 3 = 1 := by kernel_rfl
    have cR : Tryd.prog.cellsOf 26 = 7 := by kernel_rfl
    have each : ∀ i, i < len → ∃ q : OpIn, (∀ j v, (opC q)[j]? = some v → W.cell? (x.add (i * 9 + j)) = some v) ∧ RacesAt W (fun _ => True) q.rv q.r.races ∧ (Lit.int .i64 q.n).wf = true := by
      intro i hi
      obtain ⟨cs', h1, h2⟩ := hr i (by omega)
      rw [show Tryd.prog.cellsOf 109 = 9 by kernel_rfl] at h1
      obtain ⟨_, hlen, hcell⟩ := World.cells?_some h1
      obtain ⟨xs, k, hk, hxy, _, hxl, hff⟩ := DataW.trod_struct hE h2
      match xs, hxl, cs', hlen with
      | [y0, y1, y2], _, [v0, v1, v2, v3, v4, v5, v6, v7, v8], _ =>
        have g0 := hff 0 f0 rfl
        have g1 := hff 1 f1 rfl
        have g2 := hff 2 f2 rfl
        simp [o0, o1, o2, e0, e1, e2, cI, cR] at g0 g1 g2
        obtain ⟨z0, q0, _, _⟩ := DataW.trod_int Tryd.underlying3 g0
        obtain ⟨z1, q1, _, w1⟩ := DataW.trod_int Tryd.underlying3 g1
        simp only [List.cons.injEq, and_true] at q0 q1
        subst q0 q1
        obtain ⟨r, rv, hcs2, hra, _⟩ := isRep_cells (cs := #[v2, v3, v4, v5, v6, v7, v8]) (held := held) (enc := enc) (W := W) rfl ⟨k, g2⟩
        refine ⟨⟨z0, z1, r, rv⟩, fun j v hv => ?_, hra, w1⟩
        have e9 : opC ⟨z0, z1, r, rv⟩ = [.int .i64 z0, .int .i64 z1, v2, v3, v4, v5, v6, v7, v8] := by
          unfold opC
          have h7 : [v2, v3, v4, v5, v6, v7, v8] = rpC r rv := congrArg Array.toList hcs2
          show [.int .i64 z0, .int .i64 z1] ++ rpC r rv = _
          rw [← h7]
          rfl
        rw [e9] at hv
        have hj : j < 9 := by
          rcases Nat.lt_or_ge j 9 with h | h
          · exact h
          · rw [List.getElem?_eq_none (by simpa using h)] at hv; cases hv
        have ej := hcell j (by simpa using hj)
        rw [Go.Deep.add_add] at ej
        rw [ej]
        exact hv
    haveI : Inhabited OpIn := ⟨⟨0, 0, ⟨0, 0, 0, 0, 0, 0, []⟩, undef⟩⟩
    obtain ⟨q, hq⟩ := Go.Deep.choose_lt each
    refine ⟨(List.range len).map q, some x, len, cap, rfl, by simp, hl, hm, fun i y hy => ?_⟩
    have hi : i < len := by
      rcases Nat.lt_or_ge i len with h | h
      · exact h
      · rw [List.getElem?_eq_none (by simpa using h)] at hy; cases hy
    rw [List.getElem?_map, List.getElem?_range hi, Option.map_some] at hy
    obtain rfl := Option.some.inj hy
    obtain ⟨h1, h2, h3⟩ := hq i hi
    have h10 := (hq 0 (by omega)).1 0 _ rfl
    refine ⟨?_, h2, h3⟩
    rw [Nat.zero_mul, Nat.zero_add] at h10
    obtain ⟨blk, off, rfl⟩ := spot_none h10
    refine ⟨blk, off, rfl, fun j v hv => ?_⟩
    have := h1 j v hv
    rw [addr_add, ← Nat.add_assoc] at this
    exact this
end Go.Proofs.YtnpneippahdigaaDoor
