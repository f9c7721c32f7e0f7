/-
  What the statements' rows give the walks: a request with a response's parts, that came in.
-/
import Derived.Test.YtnpneippahdigaaDoorIn2
import Derived.Test.YtnpneippahdigaaDoorWireN
import Derived.OpenShut
namespace Go.Proofs.YtnpneippahdigaaDoor
open Go.ChangeShapes Go.WideShapes Go.ChangeAt Go.RowKit Go.Proofs.Mem

/-- the cells of a statement's 'Ask'. -/
def askC (k n f : Int) (text : List Nat) (t s : Int) (bv : Value) : List Value := rqC k n f text ++ [.int .i64 t, .int .i64 s, bv]
theorem ask_under : ∃ f0 f1 f2 f3 : Field, Tryd.prog.underlying 57 = some (.struct #[f0, f1, f2, f3]) ∧ (f0.offset = 0 ∧ f1.offset = 4 ∧ f2.offset = 5 ∧ f3.offset = 6) ∧
    f0.type = 55 ∧ f1.type = 3 ∧ f2.type = 3 ∧ f3.type = 32 := ⟨_, _, _, _, Tryd.underlying57, ⟨rfl, rfl, rfl, rfl⟩, rfl, rfl, rfl, rfl⟩
theorem rq_under : ∃ f0 f1 f2 f3 : Field, Tryd.prog.underlying 55 = some (.struct #[f0, f1, f2, f3]) ∧ (f0.offset = 0 ∧ f1.offset = 1 ∧ f2.offset = 2 ∧ f3.offset = 3) ∧
    f0.type = 3 ∧ f1.type = 3 ∧ f2.type = 3 ∧ f3.type = 9 := ⟨_, _, _, _, Tryd.underlying55, ⟨rfl, rfl, rfl, rfl⟩, rfl, rfl, rfl, rfl⟩
/-- a string as a list of bytes. -/
theorem bstr_of (s : ByteArray) : ∃ xs : List Nat, (∀ x ∈ xs, x < 256) ∧ s = bstr xs := by
  refine ⟨s.data.toList.map UInt8.toNat, fun x hx => ?_, ?_⟩
  · obtain ⟨u, _, rfl⟩ := List.mem_map.1 hx
    exact u.toNat_lt
  · obtain ⟨⟨l⟩⟩ := s
    simp [bstr, List.map_map, Function.comp_def]
theorem cell_of_take {cs : List Value} {o : Nat} {v : Value} (h : List.take 1 (List.drop o cs) = [v]) : cs[o]? = some v := by
  have : (List.take 1 (List.drop o cs))[0]? = some v := by rw [h]; rfl
  rwa [List.getElem?_take, if_pos (by decide), List.getElem?_drop] at this

set_option maxRecDepth 100000 in
theorem isRq_of {H : Type} {enc : TypeId × Value → H} {W : World} {base : Nat} {spare : Nat → Bool} {held : Bool} {fuel : Nat} {cs : List Value} {x : DataW H × List MemPlace}
    (h : DataW.trod enc Tryd.prog W base spare held fuel 55 cs = some x) :
    ∃ (k n f : Int) (text : List Nat), cs = rqC k n f text ∧ (∀ x ∈ text, x < 256) ∧ ((Lit.int .i64 k).wf = true ∧ (Lit.int .i64 n).wf = true ∧ (Lit.int .i64 f).wf = true) ∧ text.length ≤ maxLen := by
  obtain ⟨f0, f1, f2, f3, hs, ⟨o0, o1, o2, o3⟩, e0, e1, e2, e3⟩ := rq_under
  obtain ⟨xs, m, _, _, hcl, hxl, hff⟩ := DataW.trod_struct hs h
  rw [show Tryd.prog.cellsOf 55 = 4 by kernel_rfl] at hcl
  match xs, hxl with
  | [y0, y1, y2, y3], _ =>
    have g0 := hff 0 f0 rfl
    have g1 := hff 1 f1 rfl
    have g2 := hff 2 f2 rfl
    have g3 := hff 3 f3 rfl
    rw [o0, e0, show Tryd.prog.cellsOf 3 = 1 by kernel_rfl] at g0
    rw [o1, e1, show Tryd.prog.cellsOf 3 = 1 by kernel_rfl] at g1
    rw [o2, e2, show Tryd.prog.cellsOf 3 = 1 by kernel_rfl] at g2
    rw [o3, e3, show Tryd.prog.cellsOf 9 = 1 by kernel_rfl] at g3
    obtain ⟨k, q0, _, w0⟩ := DataW.trod_int Tryd.underlying3 g0
    obtain ⟨n, q1, _, w1⟩ := DataW.trod_int Tryd.underlying3 g1
    obtain ⟨f, q2, _, w2⟩ := DataW.trod_int Tryd.underlying3 g2
    obtain ⟨s, q3, _, w3⟩ := DataW.trod_string Tryd.underlying9 g3
    obtain ⟨text, ht, rfl⟩ := bstr_of s
    refine ⟨k, n, f, text, ?_, ht, ⟨w0, w1, w2⟩, by rw [bstr_size] at w3; exact w3⟩
    apply List.ext_getElem?
    intro i
    by_cases hi : i < 4
    · have hc : i = 0 ∨ i = 1 ∨ i = 2 ∨ i = 3 := by omega
      rcases hc with rfl | rfl | rfl | rfl
      · exact cell_of_take q0
      · exact cell_of_take q1
      · exact cell_of_take q2
      · exact cell_of_take q3
    · rw [List.getElem?_eq_none (by omega), List.getElem?_eq_none (by simp [rqC]; omega)]

set_option maxRecDepth 100000 in
theorem isAsk_of {H : Type} {enc : TypeId × Value → H} {W : World} {held : Bool} {base : Nat} {v : Value} {d : DataW H} {p : List MemPlace} (hv : Value.okWide Tryd.prog W .any base 57 v)
    (h : DataW.Trod enc Tryd.prog W 0 (fun _ => true) held 57 v d p) :
    ∃ (k n f : Int) (text : List Nat) (t s : Int) (more : List Nat) (bv : Value), v = .agg (askC k n f text t s bv).toArray ∧ (∀ x ∈ text, x < 256) ∧ (∀ x ∈ more, x < 256) ∧
      ((Lit.int .i64 k).wf = true ∧ (Lit.int .i64 n).wf = true ∧ (Lit.int .i64 f).wf = true) ∧ text.length ≤ maxLen ∧ Cells W (fun _ => True) bv (ints .u8 more) := by
  obtain ⟨f0, f1, f2, f3, hs, ⟨o0, o1, o2, o3⟩, e0, e1, e2, e3⟩ := ask_under
  obtain ⟨cs, rfl, hsz⟩ := okWide_struct hs hv
  rw [show Tryd.prog.cellsOf 57 = 7 by kernel_rfl] at hsz
  obtain ⟨fuel, hf⟩ := h
  obtain ⟨xs, m, _, _, _, hxl, hff⟩ := DataW.trod_struct hs hf
  match xs, hxl with
  | [y0, y1, y2, y3], _ =>
    have g0 := hff 0 f0 rfl
    have g1 := hff 1 f1 rfl
    have g2 := hff 2 f2 rfl
    have g3 := hff 3 f3 rfl
    rw [o0, e0, show Tryd.prog.cellsOf 55 = 4 by kernel_rfl] at g0
    rw [o1, e1, show Tryd.prog.cellsOf 3 = 1 by kernel_rfl] at g1
    rw [o2, e2, show Tryd.prog.cellsOf 3 = 1 by kernel_rfl] at g2
    rw [o3, e3, show Tryd.prog.cellsOf 32 = 1 by kernel_rfl] at g3
    have hcs : (Value.agg cs).cells = cs := rfl
    rw [hcs] at g0 g1 g2 g3
    obtain ⟨k, n, f, text, q0, ht, hw, htl⟩ := isRq_of g0
    obtain ⟨t, q1, _, _⟩ := DataW.trod_int Tryd.underlying3 g1
    obtain ⟨s, q2, _, _⟩ := DataW.trod_int Tryd.underlying3 g2
    have hv3 : ∃ a l c, (List.take 1 (List.drop 6 cs.toList)) = [Value.slice a l c] := by
      rcases DataW.trod_slice Tryd.underlying32 g3 with ⟨hc, _⟩ | ⟨a, l, c, _, _, _, _, hc, _⟩
      · exact ⟨_, _, _, hc⟩
      · exact ⟨_, _, _, hc⟩
    obtain ⟨a3, l3, c3, q3⟩ := hv3
    rw [q3] at g3
    obtain ⟨us, hu⟩ := isRow_of (held := held) (enc := enc) (W := W) Tryd.underlying32 Tryd.underlying5 (by kernel_rfl) ⟨m, g3⟩
    obtain ⟨more, hb1, hb2⟩ := hu.bytes
    refine ⟨k, n, f, text, t, s, more, .slice a3 l3 c3, ?_, ht, hb1, hw, htl, hb2⟩
    congr 1
    apply Array.ext'
    have hlen : cs.toList.length = 7 := by simpa using hsz
    apply List.ext_getElem?
    intro i
    by_cases hi : i < 7
    · have hc : i < 4 ∨ i = 4 ∨ i = 5 ∨ i = 6 := by omega
      rcases hc with hc | rfl | rfl | rfl
      · have e := congrArg (fun l : List Value => l[i]?) q0
        simp only [List.drop_zero, List.getElem?_take, if_pos hc] at e
        rw [e]
        unfold askC
        rw [List.toList_toArray, List.getElem?_append_left (by simpa [rqC] using hc)]
      · exact cell_of_take q1
      · exact cell_of_take q2
      · exact cell_of_take q3
    · rw [List.getElem?_eq_none (by omega), List.getElem?_eq_none (by simp [askC, rqC]; omega)]
end Go.Proofs.YtnpneippahdigaaDoor
