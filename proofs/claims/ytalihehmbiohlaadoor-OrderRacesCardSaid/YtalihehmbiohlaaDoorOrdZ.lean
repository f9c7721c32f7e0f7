/-
  Races compared; the chapter's examples. Step by step: alive of package stockadelaw18.
-/
import Derived.Test.YtalihehmbiohlaaDoorOrdY
import Derived.Laws.StructEq
namespace Go.Proofs.YtalihehmbiohlaaDoor
open Go.RowKit Go.Maps Go.Proofs.Mem Go.Proofs.Txt Go.Proofs.Ord Go.Proofs.Mp

theorem race_stood : Tryd.prog.stoodInHeld 56 = false := by kernel_rfl
theorem race_fields : (Tryd.prog.fieldsOf 56).toList.map (fun f => (f.name == "_", f.type, f.offset)) = [(false, 3, 0), (false, 3, 1), (false, 3, 2), (false, 4, 3), (false, 4, 4)] := by kernel_rfl
theorem race_under' : Tryd.prog.underlying 56 = some (.struct (Tryd.prog.fieldsOf 56)) := by
  unfold Program.fieldsOf
  rw [Tryd.underlying56]
theorem eqF_race (w : World) (x y : Rc) : ∀ (fs : List Field), fs.map (fun f => (f.name == "_", f.type, f.offset)) = [(false, 3, 0), (false, 3, 1), (false, 3, 2), (false, 4, 3), (false, 4, 4)] →
    (Op.eqFields 9999 (rcC x).toArray (rcC y).toArray fs).run Tryd.prog w = .ok (decide (x = y)) w
  | [f0, f1, f2, f3, f4], h => by
    simp only [List.map_cons, List.map_nil, List.cons.injEq, Prod.mk.injEq, and_true, beq_eq_false_iff_ne] at h
    obtain ⟨⟨n0, t0, o0⟩, ⟨n1, t1, o1⟩, ⟨n2, t2, o2⟩, ⟨n3, t3, o3⟩, n4, t4, o4⟩ := h
    have c1 : Tryd.prog.cellsOf 3 = 1 := by kernel_rfl
    have c2 : Tryd.prog.cellsOf 4 = 1 := by kernel_rfl
    have u1 := Tryd.underlying3
    have u2 := Tryd.underlying4
    obtain ⟨a, b, c, d, e⟩ := x
    obtain ⟨a', b', c', d', e'⟩ := y
    simp only [Op.eqFields, n0, n1, n2, n3, n4, t0, t1, t2, t3, t4, o0, o1, o2, o3, o4, rcC, ne_eq, not_false_eq_true, if_true, Sem.run_bind]
    go_simp
    by_cases h0 : a = a'
    · by_cases h1 : b = b'
      · by_cases h2 : c = c'
        · by_cases h3 : d = d'
          · by_cases h4 : e = e'
            · simp [h0, h1, h2, h3, h4]
            · simp [h0, h1, h2, h3, h4]
          · simp [h0, h1, h2, h3]
        · simp [h0, h1, h2]
      · simp [h0, h1]
    · simp [h0]
  | [], h => by simp at h
  | [_], h => by simp at h
  | [_, _], h => by simp at h
  | [_, _, _], h => by simp at h
  | [_, _, _, _], h => by simp at h
  | _ :: _ :: _ :: _ :: _ :: _ :: _, h => by simp at h
theorem eql_race (x y : Rc) (w : World) : (binOp .eql 56 (.agg (rcC x).toArray) (.agg (rcC y).toArray)).run Tryd.prog w = .ok (.bool (decide (x = y))) w := by
  rw [run_eql_struct, run_equalIn_agg w 9999 _ _ _ race_under' race_stood, eqF_race w x y _ race_fields]
  rfl
theorem neq_race (x y : Rc) (w : World) : (binOp .neq 56 (.agg (rcC x).toArray) (.agg (rcC y).toArray)).run Tryd.prog w = .ok (.bool (!decide (x = y))) w := by
  rw [run_neq_struct, run_equalIn_agg w 9999 _ _ _ race_under' race_stood, eqF_race w x y _ race_fields]
  rfl
def ex1 : List Ev := [⟨0, 2, 0, 0⟩, ⟨0, 10, 1, 0⟩, ⟨1, 1, 0, 0⟩]
def ex2 : List Ev := [⟨0, 10, 1, 0⟩, ⟨0, 2, 0, 4⟩, ⟨1, 1, 0, 9⟩]
theorem ex1_races : racesP [] ex1 = [] := by kernel_rfl
theorem ex2_races : racesP [] ex2 = [⟨0, 4, 9, true, false⟩] := by kernel_rfl
theorem evs_of {w : World} {b : Nat} {p : Nat → Prop} {l : List Ev} (h : w.heap[b]? = some (.cells (l.flatMap evC).toArray 25 (0, 0))) (hp : p b) (hl : l.length ≤ 1000) : EvsAt w p (.slice (some ⟨b, 0, none⟩) l.length l.length) l := by
  refine ⟨_, _, _, rfl, rfl, Nat.le_refl _, by unfold maxLen; omega, fun i x hx => ⟨b, 0, rfl, hp, fun j y hy => ?_⟩⟩
  rw [cell_at h, List.flatMap_def, Nat.zero_add]
  exact flatten_get (k := 4) (fun z hz => by obtain ⟨e, _, rfl⟩ := List.mem_map.1 hz; rfl) i (evC x) j y (by rw [List.getElem?_map, hx]; rfl) hy

set_option maxRecDepth 100000 in
set_option maxHeartbeats 4000000 in
theorem alive18_walk (w : World) (ev : Value) (he : w.cell? ⟨0, 0, none⟩ = some ev) (hl : 0 < w.heap.size) : Calls Tryd.prog 9 #[] w fun e w' => e = .returned (.bool true) ∧ Keep (· < w.heap.size) w w' := by
  have HE := hid (And.intro he hl)
  have HW := hid (show ∀ (l : List Ev) (w0 : World) (p : Nat → Prop) (v : Value), (l = ex1 ∨ l = ex2) → Keep (· < w.heap.size) w w0 → EvsAt w0 p v l → Calls Tryd.prog 10 #[v, .slice none 0 0] w0 fun e w' => ∃ out, e = .returned (.tuple #[out, .nilIface]) ∧ OwnS w0.heap.size w' 56 5 out ((racesP [] l).map rcC) ∧ Keep (· < w0.heap.size) w0 w' from fun l w0 p v hl0 k0 hv =>
    races_walk [] l v _ ev w0 p (fun _ => True) hv (Cells.nil _ _) ((k0.cell (x := ⟨0, 0, none⟩) HE.out.2).trans HE.out.1) (Nat.lt_of_lt_of_le HE.out.2 k0.size) (by rcases hl0 with rfl | rfl <;> decide) (by rcases hl0 with rfl | rfl <;> decide) (by rcases hl0 with rfl | rfl <;> decide) (by intro r hr; cases hr))
  clear he hl
  go_enter Tryd.func9, Tryd.ntmps9
  go_wp2_with fail
  refine (HW.out ex1 _ (fun _ => True) _ (.inl rfl) ((Keep.refl _ _).alloc _ (fun _ h => h)) (evs_of (heap_alloc_new w _) trivial (by decide))).mono ?_
  rintro e w1 ⟨out, rfl, q1, k1⟩
  rw [ex1_races] at q1
  obtain ⟨oa, oc, rfl⟩ := q1.form
  have K1 := hid (show Keep (· < w.heap.size) w w1 from ((Keep.refl _ _).alloc _ (fun _ h => h)).trans (k1.mono fun b hb => by rw [World.size_alloc]; omega))
  clear q1 k1
  simp only [List.map_nil, List.length_nil]
  go_wp2_with fail
  refine (HW.out ex2 _ (fun _ => True) _ (.inr rfl) (K1.out.alloc _ (fun _ hb => Nat.lt_of_lt_of_le hb K1.out.size)) (evs_of (heap_alloc_new w1 _) trivial (by decide))).mono ?_
  rintro e w2 ⟨out, rfl, q2, k2⟩
  rw [ex2_races] at q2
  have a2 := q2.at_ (by intro x hx; obtain ⟨r, _, rfl⟩ := List.mem_map.1 hx; rfl)
  obtain ⟨ob, oc2, rfl⟩ := q2.form
  obtain ⟨b, off, hb, _, hr⟩ := a2.get 0 (x := rcC ⟨0, 4, 9, true, false⟩) rfl
  subst hb
  have K2 := hid (show Keep (· < w.heap.size) w w2 from (K1.out.alloc _ (fun _ hb => Nat.lt_of_lt_of_le hb K1.out.size)).trans (k2.mono fun b hb => by rw [World.size_alloc]; have := K1.out.size; omega))
  have c0 : w2.cell? ⟨b, off, none⟩ = some (.int .i64 0) := hr 0 _ rfl
  have c1 : w2.cell? ⟨b, off + 1, none⟩ = some (.int .i64 4) := hr 1 _ rfl
  have c2 : w2.cell? ⟨b, off + 2, none⟩ = some (.int .i64 9) := hr 2 _ rfl
  have c3 : w2.cell? ⟨b, off + 3, none⟩ = some (.bool true) := hr 3 _ rfl
  have c4 : w2.cell? ⟨b, off + 4, none⟩ = some (.bool false) := hr 4 _ rfl
  have hq : ∀ w0 : World, (binOp .eql 56 (.agg #[.int .i64 0, .int .i64 4, .int .i64 9, .bool true, .bool false]) (.agg #[.int .i64 0, .int .i64 4, .int .i64 9, .bool true, .bool false])).run Tryd.prog w0 = .ok (.bool true) w0 := fun w0 => eql_race ⟨0, 4, 9, true, false⟩ ⟨0, 4, 9, true, false⟩ w0
  clear a2 q2 k2 hr
  simp only [List.map_nil, List.map_cons, List.length_nil, List.length_cons]
  go_wp2_with fail
  go_ret
  exact ⟨rfl, K2.out⟩
end Go.Proofs.YtalihehmbiohlaaDoor
