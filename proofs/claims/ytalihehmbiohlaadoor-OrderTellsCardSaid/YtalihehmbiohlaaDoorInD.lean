/-
  What the statements' rows of layer 18 give the walks: a trace, rooms and two numbers that came in as one.
-/
import Derived.Test.YtalihehmbiohlaaDoorInC
namespace Go.Proofs.YtalihehmbiohlaaDoor
open Go.ChangeShapes Go.WideShapes Go.ChangeAt Go.RowKit Go.Proofs.Mem Go.Proofs.Ord

theorem ask18_under : ∃ f0 f1 f2 f3 : Field, Tryd.prog.underlying 41 = some (.struct #[f0, f1, f2, f3]) ∧ (f0.offset = 0 ∧ f1.offset = 1 ∧ f2.offset = 2 ∧ f3.offset = 3) ∧
    f0.type = 22 ∧ f1.type = 32 ∧ f2.type = 3 ∧ f3.type = 3 := ⟨_, _, _, _, Tryd.underlying41, ⟨rfl, rfl, rfl, rfl⟩, rfl, rfl, rfl, rfl⟩
set_option maxRecDepth 100000 in
theorem isAsk18_of {H : Type} {enc : TypeId × Value → H} {W : World} {held : Bool} {base : Nat} {v : Value} {d : DataW H} {p : List MemPlace} (hv : Value.okWide Tryd.prog W .any base 41 v)
    (h : DataW.Trod enc Tryd.prog W 0 (fun _ => true) held 41 v d p) :
    ∃ (l : List Ev) (zs : List Int) (a b : Int) (tv rv : Value), v = .agg #[tv, rv, .int .i64 a, .int .i64 b] ∧ EvsAt W (fun _ => True) tv l ∧ (∀ e ∈ l, Ev.inRange e) ∧ Cells W (fun _ => True) rv (zs.map (Value.int .i64)) ∧ (∀ r ∈ zs, r ≤ 9223372036854775807) ∧ (Lit.int .i64 a).wf = true ∧ (Lit.int .i64 b).wf = true := by
  obtain ⟨f0, f1, f2, f3, hs, ⟨o0, o1, o2, o3⟩, e0, e1, e2, e3⟩ := ask18_under
  obtain ⟨cs, rfl, hsz⟩ := okWide_struct hs hv
  rw [show Tryd.prog.cellsOf 41 = 4 by kernel_rfl] at hsz
  obtain ⟨fuel, hf⟩ := h
  obtain ⟨xs, m, _, _, _, hxl, hff⟩ := DataW.trod_struct hs hf
  match xs, hxl with
  | [y0, y1, y2, y3], _ =>
    have g0 := hff 0 f0 rfl
    have g1 := hff 1 f1 rfl
    have g2 := hff 2 f2 rfl
    have g3 := hff 3 f3 rfl
    rw [o0, e0, show Tryd.prog.cellsOf 22 = 1 by kernel_rfl] at g0
    rw [o1, e1, show Tryd.prog.cellsOf 32 = 1 by kernel_rfl] at g1
    rw [o2, e2, show Tryd.prog.cellsOf 3 = 1 by kernel_rfl] at g2
    rw [o3, e3, show Tryd.prog.cellsOf 3 = 1 by kernel_rfl] at g3
    have hcs : (Value.agg cs).cells = cs := rfl
    rw [hcs] at g0 g1 g2 g3
    have hv0 : ∃ a l c, (List.take 1 (List.drop 0 cs.toList)) = [Value.slice a l c] := by
      rcases DataW.trod_slice Tryd.underlying22 g0 with ⟨hc, _⟩ | ⟨a, l, c, _, _, _, _, hc, _⟩
      · exact ⟨_, _, _, hc⟩
      · exact ⟨_, _, _, hc⟩
    have hv1 : ∃ a l c, (List.take 1 (List.drop 1 cs.toList)) = [Value.slice a l c] := by
      rcases DataW.trod_slice Tryd.underlying32 g1 with ⟨hc, _⟩ | ⟨a, l, c, _, _, _, _, hc, _⟩
      · exact ⟨_, _, _, hc⟩
      · exact ⟨_, _, _, hc⟩
    obtain ⟨a0, l0, c0, q0⟩ := hv0
    obtain ⟨a1, l1, c1, q1⟩ := hv1
    rw [q0] at g0
    rw [q1] at g1
    obtain ⟨a, q2, _, w2⟩ := DataW.trod_int Tryd.underlying3 g2
    obtain ⟨b, q3, _, w3⟩ := DataW.trod_int Tryd.underlying3 g3
    obtain ⟨l, hl, hin⟩ := isEvs_of (held := held) (enc := enc) (W := W) ⟨m, g0⟩
    obtain ⟨us, hu⟩ := isRow_of (held := held) (enc := enc) (W := W) Tryd.underlying32 Tryd.underlying3 (by kernel_rfl) ⟨m, g1⟩
    refine ⟨l, us.take l1, a, b, .slice a0 l0 c0, .slice a1 l1 c1, ?_, hl, hin, hu.cells.2, hu.le64, w2, w3⟩
    congr 1
    apply Array.ext'
    have hlen : cs.toList.length = 4 := by simpa using hsz
    have cot : ∀ {o : Nat} {v : Value}, List.take 1 (List.drop o cs.toList) = [v] → cs.toList[o]? = some v := fun {o v} h => by
      have : (List.take 1 (List.drop o cs.toList))[0]? = some v := by rw [h]; rfl
      rwa [List.getElem?_take, if_pos (by decide), List.getElem?_drop] at this
    apply List.ext_getElem?
    intro i
    by_cases hi : i < 4
    · have hc : i = 0 ∨ i = 1 ∨ i = 2 ∨ i = 3 := by omega
      rcases hc with rfl | rfl | rfl | rfl
      · exact cot q0
      · exact cot q1
      · exact cot q2
      · exact cot q3
    · rw [List.getElem?_eq_none (by omega), List.getElem?_eq_none (by simp; omega)]
end Go.Proofs.YtalihehmbiohlaaDoor
