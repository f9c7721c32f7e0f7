/-
  Step by step: 'slices.Insert' of bytes at 9, 'Put' of package wire.
-/
import Derived.Test.YtnpneippahdigaaDoorWireF
import Derived.Lib.AppendZerosOnto
import Derived.Lib.Overlaps
namespace Go.Proofs.YtnpneippahdigaaDoor
open Go.RowKit Go.Proofs.Mem Go.Proofs.Txt

section
variable {P : Program}
/-- a copy, its run told. -/
theorem wp_copy_run {o : Oper} {a : Act} {w : World} {K : Act → World → Prop} {Q : Exit → Act → World → Prop} (d s : Operand) (T T' : TypeId)
    (ho : o.op = .call { callee := .builtin .copy, args := #[d, s], argTypes := #[T, T'] }) (v' : Value) (w' : World)
    (hr : (Builtin.copy_ #[T, T'] o.type #[a.eval d, a.eval s]).run P w = .ok v' w') (h : K (a.put o.dst v') w') : o.wp P a w K Q := by
  unfold Oper.wp execOp
  simp only [ho, resolve, invoke, builtin, Sem.run_bind, Sem.run_pure, Result.andThen_ok, List.map_toArray, List.map_cons, List.map_nil, hr]
  exact h
theorem wpList_copy_run {ops : Array Oper} {rest : List Oper} {o : Oper} {a : Act} {w : World} {Q : Exit → Act → World → Prop} (hgd : o.guard = none) (d s : Operand) (T T' : TypeId)
    (ho : o.op = .call { callee := .builtin .copy, args := #[d, s], argTypes := #[T, T'] }) (v' : Value) (w' : World)
    (hr : (Builtin.copy_ #[T, T'] o.type #[a.eval d, a.eval s]).run P w = .ok v' w') (h : wpList P ops Q rest (a.put o.dst v') w') : wpList P ops Q (o :: rest) a w :=
  wpList_plain hgd fun _ hK => wp_copy_run d s T T' ho v' w' hr (hK _ _ h)
end

section
variable {P : Program} (T E : TypeId) (hT : P.underlying T = some (.slice E)) (hE : (P.info? E).map (·.size) = some 1)
include hT hE
/-- copy into a part of a block that is known whole: at least one cell. -/
theorem copy_into' (w : World) (ty : TypeId) {p : Nat → Prop} {b o dl dc : Nat} {cur : List Value} {t : TypeId} {a : Option Addr} {len cap : Nat} {cs : List Value} (hb : w.heap[b]? = some (.cells cur.toArray t (0, 0)))
    (h : Cells w p (.slice a len cap) cs) (n : Nat) (hn : n = Nat.min cs.length dl) (hfit : o + dl ≤ cur.length) (h1 : ∀ v ∈ cs.take n, v.oneCell' = true) :
    (Builtin.copy_ #[T, T] ty #[.slice (some ⟨b, o, none⟩) dl dc, .slice a len cap]).run P w = .ok (.int .i64 (n : Int)) (w.setRow b (cur.take o ++ (cs.take n ++ cur.drop (o + n))).toArray) := by
  obtain ⟨a', len', cap', e, h2, h3, h4, h5⟩ := h
  cases e
  subst h2
  have hn1 : n ≤ cs.length := by rw [hn]; exact Nat.min_le_left _ _
  have hn2 : n ≤ dl := by rw [hn]; exact Nat.min_le_right _ _
  by_cases h0 : n = 0
  · subst h0
    have e : (cur.take o ++ (cs.take 0 ++ cur.drop (o + 0))) = cur := by simp
    rw [e, setRow_self w b _ _ _ hb]
    cases hq : P.info? E with
    | none => simp [hq] at hE
    | some i => cases a <;> simp [Builtin.copy_, run_underlying hT, Builtin.lenOf, Builtin.firstCells, sizeOf, typeInfo, hq, ← hn, storeCells, loadCells, loadCellsFrom, goInt]
  · obtain ⟨blk, off, rfl, hp, hc⟩ := h5 (by omega)
    have hl : (cs.take n).length = n := by rw [List.length_take]; omega
    have := run_copy_row (P := P) w T T ty E b o dl dc ⟨blk, off, none⟩ cs.length cap cur.toArray t (cs.take n) hT hE hb (by rw [hl]; exact hn)
      (fun j v hv => by
        rw [addr_add]
        rw [List.getElem?_take] at hv
        split at hv
        · rw [hc j (by omega)]; exact hv
        · cases hv) (by simp only [List.size_toArray]; omega) h1
    rw [hl] at this
    rw [this]
    simp [goInt, List.append_assoc]
end

theorem u8_copy (w : World) (ty : TypeId) {p : Nat → Prop} {b o dl dc : Nat} {cur : List Value} {t : TypeId} {a : Option Addr} {len cap : Nat} {cs ds : List Value} (hb : w.heap[b]? = some (.cells cur.toArray t (0, 0)))
    (h : Cells w p (.slice a len cap) cs) (k : Nat) (hk : k = Nat.min cs.length dl) (hds : cs.take k = ds) (hfit : o + dl ≤ cur.length) (h1 : ∀ v ∈ ds, v.oneCell' = true) :
    (Builtin.copy_ #[32, 32] ty #[.slice (some ⟨b, o, none⟩) dl dc, .slice a len cap]).run Tryd.prog w = .ok (.int .i64 (k : Int)) (w.setRow b (cur.take o ++ (ds ++ cur.drop (o + k))).toArray) := by
  subst hds
  exact copy_into' (P := Tryd.prog) 32 5 Tryd.underlying32 (by kernel_rfl) w ty (dc := dc) hb h k hk hfit h1
/-- two parts laid into a row. -/
theorem lay_two (A : List Value) (T L : List Value) (hT : T.length = 32) (h9 : 9 ≤ A.length) :
    (((A.take 9 ++ (T ++ A.drop 41)).take 41 ++ (L ++ (A.take 9 ++ (T ++ A.drop 41)).drop (41 + L.length)))).take (41 + L.length) = A.take 9 ++ (T ++ L) := by
  have e1 : (A.take 9 ++ (T ++ A.drop 41)).take 41 = A.take 9 ++ T := by
    rw [← List.append_assoc, List.take_append_of_le_length (by simp; omega), List.take_of_length_le (by simp; omega)]
  rw [e1, ← List.append_assoc (A.take 9 ++ T), List.take_append_of_le_length (by simp; omega), List.take_of_length_le (by simp; omega), List.append_assoc]
theorem lay_two' (A : List Value) (T L : List Value) (C : Nat) (hC : A.length = C) (h41 : 41 + L.length ≤ C) (hT : T.length = 32) :
    ((A.take 41 ++ (L ++ A.drop (41 + L.length))).take 9 ++ (T ++ (A.take 41 ++ (L ++ A.drop (41 + L.length))).drop 41)).take (41 + L.length) = A.take 9 ++ (T ++ L) := by
  have e1 : (A.take 41 ++ (L ++ A.drop (41 + L.length))).take 9 = A.take 9 := by
    rw [List.take_append_of_le_length (by simp; omega), List.take_take]; rfl
  have e2 : (A.take 41 ++ (L ++ A.drop (41 + L.length))).drop 41 = L ++ A.drop (41 + L.length) := by
    rw [List.drop_append, List.drop_of_length_le (by simp; omega), List.length_take, Nat.min_eq_left (by omega), Nat.sub_self, List.drop_zero, List.nil_append]
  rw [e1, e2, ← List.append_assoc T, ← List.append_assoc (A.take 9), List.take_append_of_le_length (by simp; omega), List.take_of_length_le (by simp; omega)]

set_option maxRecDepth 100000 in
set_option maxHeartbeats 2000000 in
theorem insert_walk (sv vv : Value) (hd tl tag : List Nat) (B : Nat) (w : World) (hh : hd.length = 9) (htag : tag.length = 32) (htl : tl.length ≤ 1000000) (hB : B ≤ w.heap.size) (hs : Fresh w B sv (ints .u8 (hd ++ tl))) (F : Nat) (hF : F < B) (hv : vv = .slice (some ⟨F, 2, none⟩) 32 32) (hFb : ∃ cs T, w.heap[F]? = some (.cells cs T (0, 0)) ∧ 0 < cs.size) (hcv : Cells w (fun b => b = F) vv (ints .u8 tag)) :
    Calls Tryd.prog 79 #[sv, .int .i64 9, vv] w fun e w' => ∃ v', e = .returned v' ∧ Fresh w' B v' (ints .u8 (hd ++ (tag ++ tl))) ∧ Keep (· < B) w w' ∧ w.heap.size ≤ w'.heap.size := by
  subst hv
  obtain ⟨sa, sc, rfl⟩ := hs.row.form
  have hn0 : (ints .u8 (hd ++ tl)).length = 9 + tl.length := by rw [ints_length, List.length_append, hh]
  have hrow := hs.row
  rcases hrow.2 with ⟨_, h0⟩ | ⟨g, cap, cur, e, _, hg, hnc, hcm, hcs, htk⟩
  · rw [hn0] at h0; omega
  injection e with e1 _ e2
  subst e1 e2
  rw [hn0] at hnc htk ⊢
  obtain ⟨n, hn⟩ : ∃ n, 9 + tl.length = n := ⟨_, rfl⟩
  rw [hn] at hnc htk ⊢
  have hcm' : sc ≤ 9223372036854775807 := by simpa [maxLen] using hcm
  have hgB := hs.own g rfl
  have hgF : g ≠ F := by omega
  have zg := (Array.getElem?_eq_some_iff.1 hg).1
  have hcl : cur.toList.length = sc := by simpa using hcs
  have HG := hid (And.intro (show w.heap[g]? = some (.cells cur.toList.toArray 5 (0, 0)) by simpa using hg) (And.intro hcl (show cur.toList.take n = ints .u8 (hd ++ tl) by simpa using htk)))
  have HS := hid hrow
  have HC := hid hcv
  have HFB := hid hFb
  have HN := hid hn
  have n9 : 9 ≤ n := by omega
  have n1 : n ≤ 1000009 := by omega
  clear hg hcs htk hcl hrow hs hcv hFb hn hn0 hcm
  by_cases h9 : n = 9
  · have ht0 : tl = [] := List.eq_nil_of_length_eq_zero (by have := HN.out; omega)
    have q1 : ((9 : Int) == (n : Int)) = true := by simp; omega
    have q2 : (9 : Int) ≤ (n : Int) := by omega
    have HA := hid (u8_append_at w 32 _ (.slice (some ⟨F, 2, none⟩) 32 32) _ (ints .u8 tag) HS.out HC.out (ints_one _ _) (by rw [ints_length, ints_length, List.length_append, hh, htag, ht0]; simp))
    have e9 : (ints .u8 (hd ++ tl)).length = n := by rw [ints_length, List.length_append, hh]; exact HN.out
    rw [e9] at HA
    have HT0 := hid ht0
    clear ht0 HG h9 e9
    go_enter Tryd.func79, Tryd.ntmps79
    go_wp2_with (at_builtin; refine wpList_app rfl (.tmp 23) (.tmp 24) 32 32 rfl _ HA.out ?_; rintro v1 w1 ⟨r1, k1, o1⟩)
    all_goals
      go_ret
      refine ⟨v1, rfl, ⟨?_, fun k hk => ?_⟩, k1.mono (fun b h => ⟨by omega, fun h' => by have h2 : g = b := Option.some.inj h'; omega⟩), k1.size⟩
      · rw [← ints_append, HT0.out, List.append_nil] at r1
        rw [HT0.out, List.append_nil]
        exact r1
      · rcases o1 k hk with h | h
        · have h2 : g = k := Option.some.inj h
          omega
        · omega
  · have h9' : 9 < n := by omega
    have q1 : ((9 : Int) == (n : Int)) = false := by simp; omega
    have q2 : (9 : Int) ≤ (n : Int) := by omega
    have qc9 : ¬ sc = 9 := by omega
    by_cases hgrow : sc < n + 32
    · have t1 : decide ((sc : Int) < (n : Int) + 32) = true := by simp; omega
      obtain ⟨i0, hi0, hz0, hs0, hb0⟩ := u8_info
      obtain ⟨K, hK⟩ : ∃ K, n + 23 = K := ⟨_, rfl⟩
      have eK : (n : Int) + 32 - 9 = (K : Int) := by omega
      have hold : (Builtin.firstCells i0.size 9 (.slice (some ⟨g, 0, none⟩) 9 sc)).run Tryd.prog w.drew = .ok (ints .u8 hd).toArray w.drew := by
        rw [hs0]
        refine run_firstCells_some (P := Tryd.prog) w.drew 1 9 ⟨g, 0, none⟩ 9 sc (ints .u8 hd) (by rw [ints_length, hh]) (fun j u hj => ?_)
        have hj9 : j < 9 := by have := (List.getElem?_eq_some_iff.1 hj).1; rwa [ints_length, hh] at this
        have h1 : w.cell? ⟨g, j, none⟩ = cur.toList[j]? := cell_at HG.out.1 j
        rw [addr_add, Nat.zero_add]
        show w.cell? ⟨g, j, none⟩ = some u
        have h2 : cur.toList[j]? = (cur.toList.take n)[j]? := by rw [List.getElem?_take, if_pos (by omega)]
        rw [h1, h2, HG.out.2.2, ints_append, List.getElem?_append_left (by rw [ints_length, hh]; exact hj9), hj]
      have hcapn := nextslicecap_le (need := 9 + K) (old := sc) (by omega)
      have hr := Lib.run_append_grow_zeros (P := Tryd.prog) w 32 3 32 5 i0 (.int .u8 0) .i64 .i64 Tryd.underlying32 Tryd.underlying3 hi0 hz0 (some ⟨g, 0, none⟩) 9 sc _ hold K (by omega) (by omega) (by omega) (by omega) (by rw [hb0]; omega) (by rw [hb0]; omega)
      have hge := grownCap_ge w (9 + K) sc 5
      have hgm := grownCap_le_maxLen w (9 + K) sc 5 (by unfold maxLen; omega)
      obtain ⟨C, hC⟩ : ∃ C, grownCap w (9 + K) sc 5 = C := ⟨_, rfl⟩
      rw [hC] at hr hge hgm
      have hgm' : C ≤ 9223372036854775807 := by simpa [maxLen] using hgm
      obtain ⟨Z, hZ⟩ : ∃ Z : List Value, (Builtin.zeroCells (Value.int .u8 0).cells K ++ Builtin.zeroCells (Value.int .u8 0).cells (C - (9 + K))).toList = Z := ⟨_, rfl⟩
      have hZl : Z.length = C - 9 := by rw [← hZ]; simp [Builtin.zeroCells, Value.cells]; omega
      have hZe : (ints .u8 hd).toArray ++ Builtin.zeroCells (Value.int .u8 0).cells K ++ Builtin.zeroCells (Value.int .u8 0).cells (C - (9 + K)) = (ints .u8 hd ++ Z).toArray := by
        rw [← hZ, Array.append_assoc]; simp
      rw [hZe] at hr
      have HR := hid hr
      have HZ := hid hZl
      have HKn := hid hK
      have c9 : ¬ C = 9 := by omega
      have c41 : ¬ C = 41 := by omega
      have eKn : 9 + K = n + 32 := by omega
      have nC : n + 32 ≤ C := by omega
      rw [eKn] at HR
      clear h9 hi0 hz0 hs0 hb0 hold hcapn hr hge hC hZ hZe hZl hK eKn hgm
      go_enter Tryd.func79, Tryd.ntmps79
      go_upto_region 10 with (at_builtin; refine Lib.wpList_append_run _ rfl _ _ _ _ rfl _ _ rfl rfl _ _ HR.out ?_)
      refine wp_world (fun w1 => Keep (· < w.heap.size) w w1 ∧ w1.heap[w.heap.size]? = some (.cells (ints .u8 hd ++ Z).toArray 5 (0, 0))) ⟨((Keep.refl _ _).drew).alloc _ (fun _ h => h), heap_alloc_new w.drew _⟩ ?_
      rintro w1 ⟨k1, R1⟩
      have H1 := hid k1
      have hl1 : (ints .u8 hd ++ Z).length = C := by rw [List.length_append, ints_length, hh, HZ.out]; omega
      have hcp1 := hid (u8_copy w1 3 (dc := C - 9) (o := 9) (dl := n + 23) R1 (HC.out.keep k1 (fun b h => by omega)) 32 (by rw [ints_length, htag]; exact (Nat.min_eq_left (by omega)).symm) (by rw [List.take_of_length_le (by rw [ints_length, htag]; exact Nat.le_refl _)]) (by rw [hl1]; omega) (ints_one _ _))
      clear k1
      go_upto_region 11 with (refine wpList_copy_run rfl (.tmp 43) (.tmp 44) 32 32 rfl _ _ hcp1.out ?_)
      refine wp_world (fun w2 => Keep (fun b => b ≠ w.heap.size) w1 w2 ∧ w2.heap[w.heap.size]? = some (.cells ((ints .u8 hd ++ Z).take 9 ++ (ints .u8 tag ++ (ints .u8 hd ++ Z).drop 41)).toArray 5 (0, 0))) ⟨(Keep.refl _ _).setRow _ (fun h => h rfl), heap_setRow R1 _⟩ ?_
      rintro w2 ⟨k2, R2⟩
      have kw2 : Keep (· < w.heap.size) w w2 := H1.out.trans (k2.mono (fun b h => Nat.ne_of_lt h))
      have hgc : ∀ i, i < cur.toList.length → w2.cell? ⟨g, 0 + i, none⟩ = cur.toList[i]? := fun i _ => by
        rw [kw2.cell (x := ⟨g, 0 + i, none⟩) zg, Nat.zero_add]; exact cell_at HG.out.1 i
      have hsub := cells_sub (w := w2.drew) (p := fun b => b = g) (blk := g) (off := 0) (cs := cur.toList) rfl hgc 9 (n - 9) (sc - 9) (by have := HG.out.2.1; omega) (by omega) (by omega)
      have htl9 : (cur.toList.drop 9).take (n - 9) = ints .u8 tl := by
        rw [← List.drop_take, HG.out.2.2, ints_append, List.drop_append, List.drop_of_length_le (by rw [ints_length, hh]; exact Nat.le_refl _), ints_length, hh]
        simp
      rw [htl9, Nat.zero_add] at hsub
      obtain ⟨A1, hA1⟩ : ∃ A1, (ints .u8 hd ++ Z).take 9 ++ (ints .u8 tag ++ (ints .u8 hd ++ Z).drop 41) = A1 := ⟨_, rfl⟩
      rw [hA1] at R2
      have hA1l : A1.length = C := by rw [← hA1]; simp [ints_length, hh, htag, HZ.out]; omega
      have hcp2 := hid (u8_copy w2.drew 3 (dc := C - 41) (o := 41) (dl := n - 9) (show w2.drew.heap[w.heap.size]? = _ from R2) hsub (n - 9) (by rw [ints_length]; have := HN.out; rw [show tl.length = n - 9 by omega]; exact (Nat.min_self _).symm) (by rw [List.take_of_length_le (by rw [ints_length]; have := HN.out; omega)]) (by rw [hA1l]; omega) (ints_one _ _))
      have HK2 := hid kw2
      have HR2 := hid R2
      have HA1 := hid hA1
      clear kw2 hgc hsub htl9 R2 R1 hA1 hcp1 k2 H1
      refine wp_region_plan [true, true, true, true, true, true, true, true, false] (.free 0 (.free 1 (.free 2 (.free 3 (.free 4 (.free 5 (.free 6 (.free 7 (.last 8))))))))) (fun _ => True) (by kernel_rfl) (by kernel_rfl) trivial ?_
      have ew9 : IntKind.i64.wrap (41 : Int) = 41 := by decide
      have C1 : (41 : Int) ≤ (n : Int) + 32 := by omega
      have C2 : 41 ≤ n + 32 := by omega
      have C3 : (9 : Int) ≤ (n : Int) + 32 := by omega
      iterate 8 (refine plan_free rfl rfl (fun K hK => ?_); go_simp; refine hK _ ?_; clear hK K)
      refine plan_last rfl rfl (fun K hK => ?_)
      refine wp_copy_run (.tmp 50) (.tmp 53) 32 32 rfl _ _ hcp2.out ?_
      refine hK _ _ ?_
      clear hK K hcp2 ew9 C1 C2 C3
      go_wp2_with fail
      go_ret
      have ht : (41 + (ints .u8 tl).length) = n + 32 := by rw [ints_length]; have := HN.out; omega
      have hres := lay_two (ints .u8 hd ++ Z) (ints .u8 tag) (ints .u8 tl) (by rw [ints_length, htag]) (by rw [hl1]; omega)
      have kk : Keep (fun b => b < w.heap.size) w2 (w2.drew.setRow w.heap.size (A1.take 41 ++ (ints .u8 tl ++ A1.drop (41 + (n - 9)))).toArray) := ((Keep.refl _ _).drew).setRow _ (Nat.lt_irrefl _)
      refine ⟨_, rfl, ⟨⟨(Nat.mul_one _).symm, .inr ⟨w.heap.size, C, (A1.take 41 ++ (ints .u8 tl ++ A1.drop (41 + (n - 9)))).toArray, ?_, Nat.zero_le _, ?_, ?_, by unfold maxLen; omega, ?_, ?_⟩⟩, fun k hk => ?_⟩, (HK2.out.trans kk).mono (fun b h => by omega), by have := HK2.out.size; have := kk.size; omega⟩
      · have h5 := HN.out
        have h6 : (ints .u8 (hd ++ (tag ++ tl))).length = n + 32 := by rw [ints_length, List.length_append, List.length_append, hh, htag]; omega
        rw [h6]
        rfl
      · exact heap_setRow (show w2.drew.heap[w.heap.size]? = _ from HR2.out) _
      · rw [ints_length, List.length_append, List.length_append, hh, htag]; have := HN.out; omega
      · have h1 := hA1l
        have := HN.out
        simp only [List.size_toArray, List.length_append, List.length_take, List.length_drop, ints_length, h1]; omega
      · rw [Nat.mul_one]
        have e1 : (ints .u8 (hd ++ (tag ++ tl))).length = 41 + (ints .u8 tl).length := by rw [ints_length, ints_length, List.length_append, List.length_append, hh, htag]; omega
        rw [e1, ← HA1.out, show n - 9 = (ints .u8 tl).length by rw [ints_length]; have := HN.out; omega]
        rw [hres, List.take_append_of_le_length (by rw [ints_length, hh]; exact Nat.le_refl _), List.take_of_length_le (by rw [ints_length, hh]; exact Nat.le_refl _), ints_append, ints_append]
      · have h2 : w.heap.size = k := Option.some.inj hk
        omega
    · have t1 : decide ((sc : Int) < (n : Int) + 32) = false := by simp; omega
      have t2 : (n : Int) + 32 ≤ (sc : Int) := by omega
      have t3 : n + 32 ≤ sc := by omega
      have qc41 : ¬ sc = 41 := by omega
      have hz1 : ∀ w, (Go.sizeOf 5).run Tryd.prog w = .ok 1 w := fun w => by kernel_rfl
      obtain ⟨cs, TF, hFc, hFs⟩ := HFB.out
      have hov : (callFunc 91 #[.slice (some ⟨F, 2, none⟩) 32 32, .slice (some ⟨g, 41, none⟩) (n - 9) (sc - 41)]).run Tryd.prog w = .ok (.value (.bool false)) w := by
        rw [run_callFunc_extern Tryd.func91 (by kernel_rfl) (by kernel_rfl) (by kernel_rfl) (e := Extern.SlicesOverlaps.overlaps #[32, 32] #[4]) (by kernel_rfl),
          Lib.run_overlaps_apart (P := Tryd.prog) w 32 4 5 Tryd.underlying32 1 hz1 ⟨F, 2, none⟩ ⟨g, 41, none⟩ 32 32 (n - 9) (sc - 41) (fun e => hgF e.symm) TF 5 cs.size cur.toList.length (by simp [World.shape?, hFc]) (by simp [World.shape?, HG.out.1]) (by have := HG.out.2.1; omega) (frozen_at hFc 2) (frozen_at hFc _)]
        rfl
      have HFC := hid hFc
      clear h9 hFc hz1 hFs
      go_enter Tryd.func79, Tryd.ntmps79
      go_upto_region 15 with fail
      have hA1l : cur.toList.length = sc := HG.out.2.1
      have hLl : (ints .u8 tl).length = n - 9 := by rw [ints_length]; have := HN.out; omega
      have hsub := cells_sub (w := w.drew) (p := fun b => b = g) (blk := g) (off := 0) (cs := cur.toList) rfl (fun i _ => by rw [Nat.zero_add]; exact cell_at HG.out.1 i) 9 (n + 23) (sc - 9) (by omega) (by omega) (by omega)
      rw [Nat.zero_add] at hsub
      have htl9 : ((cur.toList.drop 9).take (n + 23)).take (n - 9) = ints .u8 tl := by
        rw [List.take_take, Nat.min_eq_left (by omega), ← List.drop_take, HG.out.2.2, ints_append, List.drop_append, List.drop_of_length_le (by rw [ints_length, hh]; exact Nat.le_refl _), ints_length, hh]
        simp
      have hcp1 := hid (u8_copy w.drew 3 (dc := sc - 41) (o := 41) (dl := n - 9) (show w.drew.heap[g]? = _ from HG.out.1) hsub (n - 9) (by rw [List.length_take, List.length_drop, hA1l]; exact (Nat.min_eq_right (by omega)).symm) htl9 (by rw [hA1l]; omega) (ints_one _ _))
      have HAl := hid hA1l
      have HLl := hid hLl
      clear hsub htl9 hA1l hLl hov
      refine wp_region_plan [true, true, true, true, true, true, true, true, false] (.free 0 (.free 1 (.free 2 (.free 3 (.free 4 (.free 5 (.free 6 (.free 7 (.last 8))))))))) (fun _ => True) (by kernel_rfl) (by kernel_rfl) trivial ?_
      have ew9 : IntKind.i64.wrap (41 : Int) = 41 := by decide
      have C1 : (41 : Int) ≤ (n : Int) + 32 := by omega
      have C2 : 41 ≤ n + 32 := by omega
      have C3 : (9 : Int) ≤ (n : Int) + 32 := by omega
      iterate 8 (refine plan_free rfl rfl (fun K hK => ?_); go_simp; refine hK _ ?_; clear hK K)
      refine plan_last rfl rfl (fun K hK => ?_)
      refine wp_copy_run (.tmp 73) (.tmp 76) 32 32 rfl _ _ hcp1.out ?_
      refine hK _ _ ?_
      clear hK K hcp1 ew9 C1 C2 C3
      go_upto_region 16 with fail
      refine wp_world (fun w2 => Keep (fun b => b ≠ g) w w2 ∧ w2.heap[g]? = some (.cells (cur.toList.take 41 ++ (ints .u8 tl ++ cur.toList.drop (41 + (n - 9)))).toArray 5 (0, 0))) ⟨((Keep.refl _ _).drew).setRow _ (fun h => h rfl), heap_setRow (show w.drew.heap[g]? = _ from HG.out.1) _⟩ ?_
      rintro w2 ⟨k2, R2⟩
      obtain ⟨A1, hA1⟩ : ∃ A1, cur.toList.take 41 ++ (ints .u8 tl ++ cur.toList.drop (41 + (n - 9))) = A1 := ⟨_, rfl⟩
      rw [hA1] at R2
      have hA1l : A1.length = sc := by rw [← hA1]; simp only [List.length_append, List.length_take, List.length_drop, HAl.out, HLl.out]; omega
      have hcp2 := hid (u8_copy w2 3 (dc := sc - 9) (o := 9) (dl := n + 23) R2 (HC.out.keep k2 (fun b h => by omega)) 32 (by rw [ints_length, htag]; exact (Nat.min_eq_left (by omega)).symm) (by rw [List.take_of_length_le (by rw [ints_length, htag]; exact Nat.le_refl _)]) (by rw [hA1l]; omega) (ints_one _ _))
      have HA1 := hid (And.intro hA1 hA1l)
      have HK2 := hid (And.intro k2 R2)
      clear hA1 hA1l k2 R2
      go_upto_region 17 with (refine wpList_copy_run rfl (.tmp 80) (.tmp 81) 32 32 rfl _ _ hcp2.out ?_)
      refine wp_world (fun w3 => Keep (fun b => b ≠ g) w2 w3 ∧ w3.heap[g]? = some (.cells (A1.take 9 ++ (ints .u8 tag ++ A1.drop 41)).toArray 5 (0, 0))) ⟨(Keep.refl _ _).setRow _ (fun h => h rfl), heap_setRow HK2.out.2 _⟩ ?_
      rintro w3 ⟨k3, R3⟩
      have HK3 := hid (And.intro (HK2.out.1.trans k3) R3)
      clear hcp2 k3 R3
      go_wp2_with fail
      go_ret
      have hres := lay_two' cur.toList (ints .u8 tag) (ints .u8 tl) sc HAl.out (by rw [HLl.out]; omega) (by rw [ints_length, htag])
      refine ⟨_, rfl, ⟨⟨(Nat.mul_one _).symm, .inr ⟨g, sc, (A1.take 9 ++ (ints .u8 tag ++ A1.drop 41)).toArray, ?_, Nat.zero_le _, HK3.out.2, ?_, by unfold maxLen; omega, ?_, ?_⟩⟩, fun k hk => ?_⟩, HK3.out.1.mono (fun b h => by omega), HK3.out.1.size⟩
      · have h5 := HN.out
        have h6 : (ints .u8 (hd ++ (tag ++ tl))).length = n + 32 := by rw [ints_length, List.length_append, List.length_append, hh, htag]; omega
        rw [h6]
        rfl
      · rw [ints_length, List.length_append, List.length_append, hh, htag]; have := HN.out; omega
      · have h1 := HA1.out.2
        simp only [List.size_toArray, List.length_append, List.length_take, List.length_drop, ints_length, htag, h1]; omega
      · rw [Nat.mul_one]
        have e1 : (ints .u8 (hd ++ (tag ++ tl))).length = 41 + (ints .u8 tl).length := by rw [ints_length, ints_length, List.length_append, List.length_append, hh, htag]; omega
        rw [e1, ← HA1.out.1, ← HLl.out]
        show List.take _ _ = _
        rw [hres, ints_append, ints_append]
        congr 1
        have h1 : cur.toList.take 9 = (cur.toList.take n).take 9 := by rw [List.take_take, Nat.min_eq_left n9]
        rw [h1, HG.out.2.2, ints_append, List.take_append_of_le_length (by rw [ints_length, hh]; exact Nat.le_refl _), List.take_of_length_le (by rw [ints_length, hh]; exact Nat.le_refl _)]
      · have h2 : g = k := Option.some.inj hk
        omega

set_option maxRecDepth 100000 in
set_option maxHeartbeats 1000000 in
theorem wput_good (t s : Int) (tag : List Nat) (bv : Value) (body : List Nat) (w : World) (p : Nat → Prop) (htag : tag.length = 32) (hf : Wr.form t s body.length = true) (hbv : Cells w p bv (ints .u8 body)) :
    Calls Tryd.prog 45 #[.agg (frC t s tag bv).toArray] w fun e w' => ∃ v', e = .returned (.tuple #[v', .nilIface]) ∧ Fresh w' w.heap.size v' (ints .u8 (Wr.bytes t s tag body)) ∧ Keep (· < w.heap.size) w w' ∧ w.heap.size ≤ w'.heap.size := by
  obtain ⟨f1, f2, f3, f4, f5⟩ := (Wr.form_iff _ _ _).1 hf
  obtain ⟨ba, bn, bc, rfl⟩ := cells_form hbv
  have hbn : bn = body.length := by
    obtain ⟨_, _, _, e, h1, _⟩ := id hbv
    injection e with _ e2 _
    rw [e2, h1, ints_length]
  have f5' : bn ≤ 16343 := by rw [hbn]; exact f5
  have HB := hid (hbv.lt.mono (q := fun b => b < w.heap.size) (fun _ h => h.1))
  have hi := frC_size htag t s (.slice ba bn bc)
  clear hbv hf hbn
  go_enter Tryd.func45, Tryd.ntmps45
  go_upto_region 1 with fail
  refine wp_world (fun w0 => Keep (· < w.heap.size) w w0 ∧ w0.heap[w.heap.size]? = some (.cells (frC t s tag (.slice ba bn bc)).toArray 49 (0, 0)) ∧ w.heap.size < w0.heap.size) ⟨(Keep.refl _ _).alloc _ (fun _ h => h), heap_alloc_new w _, by simp⟩ ?_
  rintro w0 ⟨k0, R0, z0⟩
  have H0 := hid (And.intro k0 R0)
  clear k0 R0
  go_wp2_with (refine wpList_load_row rfl 49 (.tmp 1) rfl w.heap.size rfl 49 _ (0, 0) _ H0.out.2 Tryd.underlying49 rfl hi ?_)
  refine (check_good t s tag ba bn bc w0 htag f1 f2 f3 f4 f5').mono ?_
  rintro e w1 ⟨rfl, k1⟩
  have H1 := hid (And.intro (H0.out.1.trans (k1.mono (fun b h => Nat.lt_trans h z0))) ((k1.block _ z0).trans H0.out.2))
  have z1 := Nat.lt_of_lt_of_le z0 k1.size
  clear k1 H0 z0
  go_upto_region 4 with fail
  refine wp_region_plan [true, false, true, true, false, false, false] (.free 0 (.free 2 (.free 3 (.one 1 (.one 4 (.one 5 (.last 6))))))) (fun wx => wx.rangeAt w.heap.size 0 (frC t s tag (.slice ba bn bc))) (by kernel_rfl) (by kernel_rfl) (range_whole (show w1.drew.heap[w.heap.size]? = _ from H1.out.2)) ?_
  refine plan_load rfl rfl 49 (.tmp 1) rfl w.heap.size 0 rfl (frC t s tag (.slice ba bn bc)) _ (fun wx h => h) Tryd.underlying49 rfl (by simpa using hi) (fun K hK => ?_)
  refine hK _ ?_
  clear hK K
  iterate 2 (refine plan_free rfl rfl (fun K hK => ?_); go_simp; refine hK _ ?_; clear hK K)
  refine plan_one rfl rfl (fun K hK => ?_); go_simp
  refine (signed_walk t s tag (.slice ba bn bc) body w1.drew _ htag (by omega) (HB.out.keep (H1.out.1.drewN 1) (fun _ h => h))).mono ?_
  rintro e w2 ⟨v2, rfl, fs2, k2', z2⟩
  have k2 : Keep (· < w1.heap.size) w1 w2 := ((Keep.refl _ w1).drew).trans k2'
  have z12 : w1.heap.size ≤ w2.heap.size := z2
  have R2 := (k2.block _ z1).trans H1.out.2
  have H2 := hid (And.intro (H1.out.1.trans (k2.mono (fun b h => Nat.lt_trans h z1))) (And.intro R2 fs2))
  refine hK _ _ ⟨range_whole R2, ?_⟩
  clear hK K k2 k2' R2 fs2
  have cT : Cells w2 (fun b => b = w.heap.size) (.slice (some ⟨w.heap.size, 2, none⟩) 32 32) (ints .u8 tag) := by
    have := Cells.of_block (w := w2) (p := fun b => b = w.heap.size) (cur := frC t s tag (.slice ba bn bc)) (off := 2) (n := 32) (cap := 32) H2.out.2.1 rfl (by rw [frC_length htag]; decide) (Nat.le_refl _) (by decide)
    rwa [frC_tag htag] at this
  refine plan_one rfl rfl (fun K hK => ?_); go_simp
  have hsg : Wr.signed t s body = (Wr.u8 t :: Sha.be8 (Wr.u64 s)) ++ body := rfl
  have hfs : Fresh w2 w1.heap.size v2 (ints .u8 ((Wr.u8 t :: Sha.be8 (Wr.u64 s)) ++ body)) := by rw [← hsg]; exact H2.out.2.2
  refine (insert_walk v2 _ (Wr.u8 t :: Sha.be8 (Wr.u64 s)) body tag w1.heap.size w2 rfl htag (by omega) z12 hfs w.heap.size z1 rfl ⟨_, _, H2.out.2.1, by rw [List.size_toArray, frC_length htag]; decide⟩ cT).mono ?_
  rintro e w3 ⟨v3, rfl, f3', k3, z3⟩
  have R3 := (k3.block _ z1).trans H2.out.2.1
  have H3 := hid (And.intro (H2.out.1.trans (k3.mono (fun b h => Nat.lt_trans h z1))) f3')
  have z3' : w.heap.size ≤ w3.heap.size := by omega
  refine hK _ _ ⟨range_whole R3, ?_⟩
  clear hK K f3' cT hfs hsg
  refine plan_one rfl rfl (fun K hK => ?_); go_simp
  refine hK _ _ ⟨range_whole R3, ?_⟩
  clear hK K k3 R3
  refine plan_last rfl rfl (fun K hK => ?_); go_simp
  refine hK _ _ ?_
  clear hK K
  go_wp2_with fail
  go_ret2
  exact ⟨v3, rfl, H3.out.2.mono (Nat.le_of_lt z1), H3.out.1, z3'⟩

set_option maxRecDepth 100000 in
theorem wput_bad (t s : Int) (tag : List Nat) (ba : Option Addr) (bn bc : Nat) (w : World) (et : TypeId) (ex : Value) (htag : tag.length = 32) (hn : bn ≤ 9223372036854775807) (hf : Wr.form t s bn = false) (he : w.cell? ⟨11, 0, none⟩ = some (.iface et ex)) (hl : 11 < w.heap.size) :
    Calls Tryd.prog 45 #[.agg (frC t s tag (.slice ba bn bc)).toArray] w fun e w' => e = .returned (.tuple #[.slice none 0 0, .iface et ex]) ∧ Keep (· < w.heap.size) w w' := by
  have hi := frC_size htag t s (.slice ba bn bc)
  have HE := hid he
  clear he
  go_enter Tryd.func45, Tryd.ntmps45
  go_upto_region 1 with fail
  refine wp_world (fun w0 => Keep (· < w.heap.size) w w0 ∧ w0.heap[w.heap.size]? = some (.cells (frC t s tag (.slice ba bn bc)).toArray 49 (0, 0)) ∧ w.heap.size < w0.heap.size) ⟨(Keep.refl _ _).alloc _ (fun _ h => h), heap_alloc_new w _, by simp⟩ ?_
  rintro w0 ⟨k0, R0, z0⟩
  have H0 := hid (And.intro k0 R0)
  clear k0 R0
  go_wp2_with (refine wpList_load_row rfl 49 (.tmp 1) rfl w.heap.size rfl 49 _ (0, 0) _ H0.out.2 Tryd.underlying49 rfl hi ?_)
  refine (check_bad t s tag ba bn bc w0 htag (.iface et ex) hf hn ((H0.out.1.cell (x := ⟨_, 0, none⟩) hl).trans HE.out) (Nat.lt_trans hl z0)).mono ?_
  rintro e w1 ⟨rfl, k1⟩
  have H1 := hid (H0.out.1.trans (k1.mono (fun b h => Nat.lt_trans h z0)))
  clear k1 H0 hf hn
  go_wp2_with fail
  go_ret2
  exact ⟨rfl, H1.out⟩
end Go.Proofs.YtnpneippahdigaaDoor
