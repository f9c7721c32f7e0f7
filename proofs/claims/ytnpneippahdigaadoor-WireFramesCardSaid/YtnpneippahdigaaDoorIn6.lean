/-
  What the statements' rows give the walks: a frame that came in.
-/
import Derived.Test.YtnpneippahdigaaDoorIn2
import Derived.Test.YtnpneippahdigaaDoorWireD
import Derived.OpenShut
import Derived.Deep.Slices
namespace Go.Proofs.YtnpneippahdigaaDoor
open Go.ChangeShapes Go.WideShapes Go.ChangeAt Go.RowKit Go.Proofs.Mem

theorem frame_under : ∃ f0 f1 f2 f3 : Field, Tryd.prog.underlying 49 = some (.struct #[f0, f1, f2, f3]) ∧ (f0.offset = 0 ∧ f1.offset = 1 ∧ f2.offset = 2 ∧ f3.offset = 34) ∧
    f0.type = 3 ∧ f1.type = 3 ∧ f2.type = 47 ∧ f3.type = 32 := ⟨_, _, _, _, Tryd.underlying49, ⟨rfl, rfl, rfl, rfl⟩, rfl, rfl, rfl, rfl⟩
theorem u8_wf {n : Int} (h : (Lit.int .u8 n).wf = true) : 0 ≤ n ∧ n < 256 := by
  simp [Lit.wf, IntKind.min, IntKind.max, IntKind.signed, IntKind.bits] at h
  omega

set_option maxRecDepth 100000 in
theorem isFrame_of {H : Type} {enc : TypeId × Value → H} {W : World} {held : Bool} {base : Nat} {v : Value} {d : DataW H} {p : List MemPlace} (hv : Value.okWide Tryd.prog W .any base 49 v)
    (h : DataW.Trod enc Tryd.prog W 0 (fun _ => true) held 49 v d p) :
    ∃ (t s : Int) (tag body : List Nat) (bv : Value), v = .agg (frC t s tag bv).toArray ∧ tag.length = 32 ∧ (∀ x ∈ tag, x < 256) ∧ (∀ x ∈ body, x < 256) ∧ Cells W (fun _ => True) bv (ints .u8 body) := by
  obtain ⟨f0, f1, f2, f3, hs, ⟨o0, o1, o2, o3⟩, e0, e1, e2, e3⟩ := frame_under
  obtain ⟨cs, rfl, hsz⟩ := okWide_struct hs hv
  have hC : Tryd.prog.cellsOf 49 = 35 := by kernel_rfl
  rw [hC] at hsz
  obtain ⟨fuel, hf⟩ := h
  obtain ⟨xs, k, _, _, _, hxl, hff⟩ := DataW.trod_struct hs hf
  match xs, hxl with
  | [y0, y1, y2, y3], _ =>
    have g0 := hff 0 f0 rfl
    have g1 := hff 1 f1 rfl
    have g2 := hff 2 f2 rfl
    have g3 := hff 3 f3 rfl
    rw [o0, e0, show Tryd.prog.cellsOf 3 = 1 by kernel_rfl] at g0
    rw [o1, e1, show Tryd.prog.cellsOf 3 = 1 by kernel_rfl] at g1
    rw [o2, e2, show Tryd.prog.cellsOf 47 = 32 by kernel_rfl] at g2
    rw [o3, e3, show Tryd.prog.cellsOf 32 = 1 by kernel_rfl] at g3
    obtain ⟨t, q0, _, _⟩ := DataW.trod_int Tryd.underlying3 g0
    obtain ⟨s, q1, _, _⟩ := DataW.trod_int Tryd.underlying3 g1
    obtain ⟨zs, m, _, _, _, hzl, hz⟩ := DataW.trod_array Tryd.underlying47 g2
    rw [show Tryd.prog.cellsOf 5 = 1 by kernel_rfl] at hz
    have hv3 : ∃ a l c, (List.take 1 (List.drop 34 (Value.agg cs).cells.toList)) = [Value.slice a l c] := by
      rcases DataW.trod_slice Tryd.underlying32 g3 with ⟨hc, _⟩ | ⟨a, l, c, _, _, _, _, hc, _⟩
      · exact ⟨_, _, _, hc⟩
      · exact ⟨_, _, _, hc⟩
    obtain ⟨a3, l3, c3, q3⟩ := hv3
    rw [q3] at g3
    obtain ⟨us, hu⟩ := isRow_of (held := held) (enc := enc) (W := W) Tryd.underlying32 Tryd.underlying5 (by kernel_rfl) ⟨k, g3⟩
    obtain ⟨body, hb1, hb2⟩ := hu.bytes
    have hcs : (Value.agg cs).cells = cs := rfl
    rw [hcs] at q0 q1 q3 hz
    have hlen : cs.toList.length = 35 := by simpa using hsz
    have each : ∀ i, i < 32 → ∃ x : Nat, x < 256 ∧ cs.toList[2 + i]? = some (.int .u8 (x : Int)) := by
      intro i hi
      have h1 := hz i hi
      rw [List.getElem?_eq_getElem (by omega)] at h1
      obtain ⟨n, qn, _, wn⟩ := DataW.trod_int Tryd.underlying5 h1
      have hw := u8_wf wn
      refine ⟨n.toNat, by omega, ?_⟩
      have h2 : (List.take 1 (List.drop (i * 1) (List.take 32 (List.drop 2 cs.toList))))[0]? = some (.int .u8 n) := by rw [qn]; rfl
      rw [List.getElem?_take, if_pos (by decide), List.getElem?_drop, List.getElem?_take, if_pos (by omega), List.getElem?_drop, Nat.mul_one, Nat.add_zero] at h2
      rw [h2, Int.toNat_of_nonneg hw.1]
    obtain ⟨f, hf'⟩ := Go.Deep.choose_lt each
    have c0 : cs.toList[0]? = some (.int .i64 t) := by
      have : (List.take 1 (List.drop 0 cs.toList))[0]? = some (.int .i64 t) := by rw [q0]; rfl
      rwa [List.getElem?_take, if_pos (by decide), List.getElem?_drop] at this
    have c1 : cs.toList[1]? = some (.int .i64 s) := by
      have : (List.take 1 (List.drop 1 cs.toList))[0]? = some (.int .i64 s) := by rw [q1]; rfl
      rwa [List.getElem?_take, if_pos (by decide), List.getElem?_drop] at this
    have c34 : cs.toList[34]? = some (.slice a3 l3 c3) := by
      have : (List.take 1 (List.drop 34 cs.toList))[0]? = some (.slice a3 l3 c3) := by rw [q3]; rfl
      rwa [List.getElem?_take, if_pos (by decide), List.getElem?_drop] at this
    have htl : ((List.range 32).map f).length = 32 := by simp
    refine ⟨t, s, (List.range 32).map f, body, .slice a3 l3 c3, ?_, htl, ?_, hb1, hb2⟩
    · congr 1
      apply Array.ext'
      apply List.ext_getElem?
      intro i
      by_cases hi : i < 35
      · have hc : i = 0 ∨ i = 1 ∨ (∃ j, j < 32 ∧ i = 2 + j) ∨ i = 34 := by
          by_cases h2 : 2 ≤ i ∧ i < 34
          · exact .inr (.inr (.inl ⟨i - 2, by omega, by omega⟩))
          · omega
        rcases hc with rfl | rfl | ⟨j, hj, rfl⟩ | rfl
        · exact c0
        · exact c1
        · rw [(hf' j hj).2]
          show _ = (frC t s ((List.range 32).map f) (.slice a3 l3 c3))[2 + j]?
          unfold frC
          rw [show 2 + j = j + 1 + 1 by omega, List.getElem?_cons_succ, List.getElem?_cons_succ, List.getElem?_append_left (by rw [ints_length, htl]; exact hj), ints_get _ _ _ (by rw [htl]; exact hj)]
          simp [List.getD_eq_getElem?_getD, List.getElem?_range hj]
        · rw [c34]
          exact (frC_34 htl t s (.slice a3 l3 c3)).symm
      · rw [List.getElem?_eq_none (by omega), List.getElem?_eq_none (by rw [List.toList_toArray, frC_length htl]; omega)]
    · intro x hx
      simp only [List.mem_map, List.mem_range] at hx
      obtain ⟨j, hj, rfl⟩ := hx
      exact (hf' j hj).1
end Go.Proofs.YtnpneippahdigaaDoor
