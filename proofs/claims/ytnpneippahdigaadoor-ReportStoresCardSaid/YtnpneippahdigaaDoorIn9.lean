/-
  What the statements' rows give the walks: a report that came in; errors' variables alone.
-/
import Derived.Test.YtnpneippahdigaaDoorIn2
import Derived.Test.YtnpneippahdigaaDoorRepA
import Derived.Deep.Slices
import Derived.OpenShut
import Derived.Test.YtnpneippahdigaaDoorIn3
namespace Go.Proofs.YtnpneippahdigaaDoor
open Go.ChangeShapes Go.WideShapes Go.ChangeAt Go.RowKit Go.Proofs.Mem

/-- out of a row's list, where errors' variables stand alone. -/
theorem errs_laid0 {W : World} (k : Nat) (h : laidMet Tryd.prog ((errTexts.take k).map fun e => (e.1, errD e.2)) W) : ∃ xs : List Addr, ErrsAt W (errGs.take k) xs ∧ xs.Nodup := by
  obtain ⟨ps, hq, hnd, hrows⟩ := h
  obtain ⟨xs, h1, h2, _⟩ := errs_of_list (W := W) (errTexts.take k) (errGs.take k) ps
    (by rw [List.map_take, errGs_named, List.map_take]) (fun g hg => errGs_type g (List.mem_of_mem_take hg)) hq hnd (fun b off hb => hrows b off hb)
  exact ⟨xs, h1, h2⟩

theorem race_under : ∃ f0 f1 f2 f3 f4 : Field, Tryd.prog.underlying 114 = some (.struct #[f0, f1, f2, f3, f4]) ∧ (f0.offset = 0 ∧ f1.offset = 1 ∧ f2.offset = 2 ∧ f3.offset = 3 ∧ f4.offset = 4) ∧
    f0.type = 3 ∧ f1.type = 3 ∧ f2.type = 3 ∧ f3.type = 4 ∧ f4.type = 4 := ⟨_, _, _, _, _, Tryd.underlying114, ⟨rfl, rfl, rfl, rfl, rfl⟩, rfl, rfl, rfl, rfl, rfl⟩
theorem endt_under : ∃ f0 f1 f2 f3 f4 : Field, Tryd.prog.underlying 23 = some (.struct #[f0, f1, f2, f3, f4]) ∧ (f0.offset = 0 ∧ f1.offset = 1 ∧ f2.offset = 2 ∧ f3.offset = 3 ∧ f4.offset = 4) ∧
    f0.type = 3 ∧ f1.type = 3 ∧ f2.type = 3 ∧ f3.type = 3 ∧ f4.type = 3 := ⟨_, _, _, _, _, Tryd.underlying23, ⟨rfl, rfl, rfl, rfl, rfl⟩, rfl, rfl, rfl, rfl, rfl⟩
theorem rep_under : ∃ f0 f1 f2 : Field, Tryd.prog.underlying 26 = some (.struct #[f0, f1, f2]) ∧ (f0.offset = 0 ∧ f1.offset = 5 ∧ f2.offset = 6) ∧
    f0.type = 23 ∧ f1.type = 3 ∧ f2.type = 24 := ⟨_, _, _, Tryd.underlying26, ⟨rfl, rfl, rfl⟩, rfl, rfl, rfl⟩

set_option maxRecDepth 100000 in
theorem isRaces_of {H : Type} {enc : TypeId × Value → H} {W : World} {held : Bool} {a : Option Addr} {len cap : Nat} {d : DataW H} {p : List MemPlace}
    (h : DataW.Trod enc Tryd.prog W 0 (fun _ => true) held 24 (.slice a len cap) d p) : ∃ l : List Rp.Race, RacesAt W (fun _ => True) (.slice a len cap) l := by
  obtain ⟨f0, f1, f2, f3, f4, hE, ⟨o0, o1, o2, o3, o4⟩, e0, e1, e2, e3, e4⟩ := race_under
  obtain ⟨fuel, hf⟩ := h
  rcases Go.Deep.open_slice Tryd.underlying24 hf with ⟨hcs, _⟩ | ⟨x, l, c, m, n, D, Pl, hcs, _, hl, hm, hmm, _, hr⟩
  · simp [Value.cells] at hcs
    obtain ⟨rfl, rfl, rfl⟩ := hcs
    exact ⟨[], RacesAt.nil _ _⟩
  · simp [Value.cells] at hcs
    obtain ⟨rfl, rfl, rfl⟩ := hcs
    simp only [if_true] at hmm
    have cI : Tryd.prog.cellsOf 3 = 1 := by kernel_rfl
    have cB : Tryd.prog.cellsOf 4 = 1 := by kernel_rfl
    have each : ∀ i, i < len → ∃ q : Rp.Race, ∀ j v, (rcC q)[j]? = some v → W.cell? (x.add (i * 5 + j)) = some v := by
      intro i hi
      obtain ⟨cs', h1, h2⟩ := hr i (by omega)
      rw [show Tryd.prog.cellsOf 114 = 5 by kernel_rfl] at h1
      obtain ⟨_, hlen, hcell⟩ := World.cells?_some h1
      obtain ⟨xs, k, hk, hxy, _, hxl, hff⟩ := DataW.trod_struct hE h2
      match xs, hxl, cs', hlen with
      | [y0, y1, y2, y3, y4], _, [v0, v1, v2, v3, v4], _ =>
        have g0 := hff 0 f0 rfl
        have g1 := hff 1 f1 rfl
        have g2 := hff 2 f2 rfl
        have g3 := hff 3 f3 rfl
        have g4 := hff 4 f4 rfl
        simp [o0, o1, o2, o3, o4, e0, e1, e2, e3, e4, cI, cB] at g0 g1 g2 g3 g4
        obtain ⟨z0, q0, _, _⟩ := DataW.trod_int Tryd.underlying3 g0
        obtain ⟨z1, q1, _, w1⟩ := DataW.trod_int Tryd.underlying3 g1
        obtain ⟨z2, q2, _, _⟩ := DataW.trod_int Tryd.underlying3 g2
        obtain ⟨z3, q3, _⟩ := DataW.trod_bool Tryd.underlying4 g3
        obtain ⟨z4, q4, _⟩ := DataW.trod_bool Tryd.underlying4 g4
        simp only [List.cons.injEq, and_true] at q0 q1 q2 q3 q4
        subst q0 q1 q2 q3 q4
        refine ⟨⟨z0, z1, z2, z3, z4⟩, fun j v hv => ?_⟩
        have hj : j < 5 := by
          rcases Nat.lt_or_ge j 5 with h | h
          · exact h
          · rw [List.getElem?_eq_none (by simpa [rcC] using h)] at hv; cases hv
        have ej := hcell j (by simpa using hj)
        rw [Go.Deep.add_add] at ej
        rw [ej]
        exact hv
    haveI : Inhabited Rp.Race := ⟨⟨0, 0, 0, false, false⟩⟩
    obtain ⟨q, hq⟩ := Go.Deep.choose_lt each
    refine ⟨(List.range len).map q, some x, len, cap, rfl, by simp, hl, hm, fun i y hy => ?_⟩
    have hi : i < len := by
      rcases Nat.lt_or_ge i len with h | h
      · exact h
      · rw [List.getElem?_eq_none (by simpa using h)] at hy; cases hy
    rw [List.getElem?_map, List.getElem?_range hi, Option.map_some] at hy
    obtain rfl := Option.some.inj hy
    have h1 := hq i hi
    have h10 := hq 0 (by omega)
    have h100 := h10 0 _ rfl
    rw [Nat.zero_mul, Nat.zero_add] at h100
    obtain ⟨blk, off, rfl⟩ := spot_none h100
    refine ⟨blk, off, rfl, trivial, fun j v hv => ?_⟩
    have := h1 j v hv
    rw [addr_add, ← Nat.add_assoc] at this
    exact this

set_option maxRecDepth 100000 in
theorem isEnd_of {H : Type} {enc : TypeId × Value → H} {W : World} {base : Nat} {spare : Nat → Bool} {held : Bool} {fuel : Nat} {cs : List Value} {x : DataW H × List MemPlace}
    (h : DataW.trod enc Tryd.prog W base spare held fuel 23 cs = some x) : ∃ o f g n at_ : Int, (∀ i, i < 5 → cs[i]? = (endC o f g n at_)[i]?) ∧ (Lit.int .i64 n).wf = true := by
  obtain ⟨f0, f1, f2, f3, f4, hs, ⟨o0, o1, o2, o3, o4⟩, e0, e1, e2, e3, e4⟩ := endt_under
  obtain ⟨xs, m, _, _, hcl, hxl, hff⟩ := DataW.trod_struct hs h
  match xs, hxl with
  | [y0, y1, y2, y3, y4], _ =>
    have g0 := hff 0 f0 rfl
    have g1 := hff 1 f1 rfl
    have g2 := hff 2 f2 rfl
    have g3 := hff 3 f3 rfl
    have g4 := hff 4 f4 rfl
    rw [o0, e0, show Tryd.prog.cellsOf 3 = 1 by kernel_rfl] at g0
    rw [o1, e1, show Tryd.prog.cellsOf 3 = 1 by kernel_rfl] at g1
    rw [o2, e2, show Tryd.prog.cellsOf 3 = 1 by kernel_rfl] at g2
    rw [o3, e3, show Tryd.prog.cellsOf 3 = 1 by kernel_rfl] at g3
    rw [o4, e4, show Tryd.prog.cellsOf 3 = 1 by kernel_rfl] at g4
    obtain ⟨k0, q0, _, _⟩ := DataW.trod_int Tryd.underlying3 g0
    obtain ⟨k1, q1, _, _⟩ := DataW.trod_int Tryd.underlying3 g1
    obtain ⟨k2, q2, _, _⟩ := DataW.trod_int Tryd.underlying3 g2
    obtain ⟨k3, q3, _, w3⟩ := DataW.trod_int Tryd.underlying3 g3
    obtain ⟨k4, q4, _, _⟩ := DataW.trod_int Tryd.underlying3 g4
    refine ⟨k0, k1, k2, k3, k4, fun i hi => ?_, w3⟩
    have cot : ∀ {o : Nat} {v : Value}, List.take 1 (List.drop o cs) = [v] → cs[o]? = some v := fun {o v} h => by
      have : (List.take 1 (List.drop o cs))[0]? = some v := by rw [h]; rfl
      rwa [List.getElem?_take, if_pos (by decide), List.getElem?_drop] at this
    have hc : i = 0 ∨ i = 1 ∨ i = 2 ∨ i = 3 ∨ i = 4 := by omega
    rcases hc with rfl | rfl | rfl | rfl | rfl
    · exact cot q0
    · exact cot q1
    · exact cot q2
    · exact cot q3
    · exact cot q4

set_option maxRecDepth 100000 in
theorem isRep_of {H : Type} {enc : TypeId × Value → H} {W : World} {held : Bool} {base : Nat} {v : Value} {d : DataW H} {p : List MemPlace} (hv : Value.okWide Tryd.prog W .any base 26 v)
    (h : DataW.Trod enc Tryd.prog W 0 (fun _ => true) held 26 v d p) :
    ∃ (r : Rp.Rep) (rv : Value), v = .agg (rpC r rv).toArray ∧ RacesAt W (fun _ => True) rv r.races ∧ (Lit.int .i64 r.n).wf = true := by
  obtain ⟨f0, f1, f2, hs, ⟨o0, o1, o2⟩, e0, e1, e2⟩ := rep_under
  obtain ⟨cs, rfl, hsz⟩ := okWide_struct hs hv
  rw [show Tryd.prog.cellsOf 26 = 7 by kernel_rfl] at hsz
  obtain ⟨fuel, hf⟩ := h
  obtain ⟨xs, m, _, _, _, hxl, hff⟩ := DataW.trod_struct hs hf
  match xs, hxl with
  | [y0, y1, y2], _ =>
    have g0 := hff 0 f0 rfl
    have g1 := hff 1 f1 rfl
    have g2 := hff 2 f2 rfl
    rw [o0, e0, show Tryd.prog.cellsOf 23 = 5 by kernel_rfl] at g0
    rw [o1, e1, show Tryd.prog.cellsOf 3 = 1 by kernel_rfl] at g1
    rw [o2, e2, show Tryd.prog.cellsOf 24 = 1 by kernel_rfl] at g2
    have hcs : (Value.agg cs).cells = cs := rfl
    rw [hcs] at g0 g1 g2
    obtain ⟨o, f, g, n, at_, q0, wn⟩ := isEnd_of g0
    obtain ⟨st, q1, _, _⟩ := DataW.trod_int Tryd.underlying3 g1
    have hv3 : ∃ a l c, (List.take 1 (List.drop 6 cs.toList)) = [Value.slice a l c] := by
      rcases DataW.trod_slice Tryd.underlying24 g2 with ⟨hc, _⟩ | ⟨a, l, c, _, _, _, _, hc, _⟩
      · exact ⟨_, _, _, hc⟩
      · exact ⟨_, _, _, hc⟩
    obtain ⟨a3, l3, c3, q3⟩ := hv3
    rw [q3] at g2
    obtain ⟨l, hl⟩ := isRaces_of (held := held) (enc := enc) (W := W) ⟨m, g2⟩
    refine ⟨⟨o, f, g, n, at_, st, l⟩, .slice a3 l3 c3, ?_, hl, wn⟩
    congr 1
    apply Array.ext'
    have hlen : cs.toList.length = 7 := by simpa using hsz
    have cot : ∀ {o : Nat} {v : Value}, List.take 1 (List.drop o cs.toList) = [v] → cs.toList[o]? = some v := fun {o v} h => by
      have : (List.take 1 (List.drop o cs.toList))[0]? = some v := by rw [h]; rfl
      rwa [List.getElem?_take, if_pos (by decide), List.getElem?_drop] at this
    apply List.ext_getElem?
    intro i
    by_cases hi : i < 7
    · have hc : i < 5 ∨ i = 5 ∨ i = 6 := by omega
      rcases hc with hc | rfl | rfl
      · have e := q0 i hc
        simp only [List.drop_zero, List.getElem?_take, if_pos hc] at e
        rw [e]
        unfold rpC
        rw [List.toList_toArray, List.getElem?_append_left (by simpa [endC] using hc)]
      · exact cot q1
      · exact cot q3
    · rw [List.getElem?_eq_none (by omega), List.getElem?_eq_none (by simp [rpC, endC]; omega)]
/-- whole numbers that came in are within their kind's range. -/
theorem IsRow.wfs {k : IntKind} {w : World} {a : Option Addr} {len cap : Nat} {zs : List Int} (h : IsRow k w a len cap zs) : ∀ x ∈ zs.take len, (Lit.int k x).wf = true := by
  intro x hx
  have hx' := List.mem_of_mem_take hx
  rcases h with ⟨_, _, _, rfl⟩ | ⟨_, _, _, _, _, _, hwf⟩
  · simp at hx'
  · exact hwf x hx'
end Go.Proofs.YtnpneippahdigaaDoor
