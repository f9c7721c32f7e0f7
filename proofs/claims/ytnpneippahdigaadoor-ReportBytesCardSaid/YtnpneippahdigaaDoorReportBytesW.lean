/-
  Step by step: ReportBytes.
-/
import Derived.Test.YtnpneippahdigaaDoorRepH
import Derived.Test.YtnpneippahdigaaDoorRepM
import Derived.Test.YtnpneippahdigaaDoorBytesK
namespace Go.Proofs.Txt
open Go
/-- a chained operation that is not wanted. -/
theorem plan_skip_one {P : Program} {ops : Array Oper} {S : World → Prop} {Q : Exit → Act → World → Prop} {o : Oper} {i : Nat} {p : Plan} {a : Act} {w : World} (hi : ops[i]? = some o) (hg : Region.wanted o (yielded ops a.tmps) = false) (h : S w ∧ runs P ops S Q p (a.put o.dst undef) w) : runs P ops S Q (.one i p) a w := by
  simp only [runs]
  unfold wpOp
  simp only [hi]
  rw [if_neg (by simp [hg])]
  exact h
end Go.Proofs.Txt
namespace Go.Proofs.YtnpneippahdigaaDoor
open Go.RowKit Go.Proofs.Mem Go.Proofs.Txt

theorem conv_bytes21 (w : World) {p : Nat → Prop} {xs : List Nat} {a : Option Addr} {len cap : Nat} (h : Cells w p (.slice a len cap) (ints .u8 xs)) :
    (convert 32 9 (.slice a len cap)).run Tryd.prog w = .ok (.string (bstr xs)) w := convert_bytes 32 5 9 Tryd.underlying32 Tryd.underlying5 Tryd.underlying9 w h
/-- what both readings give. -/
theorem any_cases (xs : List Nat) (ev : Value) (hx : ∀ x ∈ xs, x < 256) : ∃ (R : Rp.Rep) (T : Bool) (E : Value), (∀ w e w', GotRep (getAny xs) ev w e w' → Keep (· < w.heap.size) w w' ∧ ∃ v, e = .returned (.tuple #[.agg (rpC R v).toArray, E]) ∧ RacesAt w' (fun _ => True) v R.races) ∧
    (∀ w e w', GotRead (getAny xs) w e w' → Keep (· < w.heap.size) w w' ∧ ∃ v, e = .returned (.tuple #[.agg (rpC R v).toArray, .bool T]) ∧ RacesAt w' (fun _ => True) v R.races) ∧
    ((T = true ∧ E = .nilIface ∧ Rp.ok R = true ∧ Rp.bytes R = xs) ∨ (T = false ∧ E = ev)) := by
  cases hg : getAny xs with
  | none =>
    refine ⟨noRep, false, ev, fun w e w' h => ⟨h.1, _, h.2, RacesAt.nil _ _⟩, fun w e w' h => ⟨h.1, _, h.2, RacesAt.nil _ _⟩, .inr ⟨rfl, rfl⟩⟩
  | some r =>
    refine ⟨r, true, .nilIface, fun w e w' h => ?_, fun w e w' h => ?_, .inl ⟨rfl, rfl, ?_⟩⟩
    · obtain ⟨k, v, he, hr⟩ := h
      exact ⟨k, v, he, hr.mono (fun _ _ => trivial)⟩
    · obtain ⟨k, v, he, hr⟩ := h
      exact ⟨k, v, he, hr.mono (fun _ _ => trivial)⟩
    · unfold getAny at hg
      split at hg
      · cases hg
      · rename_i hc
        have := bytes_getRep xs r hx (by omega) hg
        exact ⟨this.2, this.1⟩

set_option maxRecDepth 100000 in
set_option maxHeartbeats 8000000 in
theorem reportBytes_walk (u : Value) (xs : List Nat) (es : List Addr) (w : World) (p : Nat → Prop) (hx : ∀ x ∈ xs, x < 256) (hes : ErrsAt w errGs es) (hnd : es.Nodup) (hu : Cells w p u (ints .u8 xs)) :
    Calls Tryd.prog 4 #[u] w fun e w' => e = .returned (.bool true) ∧ Keep (· < w.heap.size) w w' := by
  obtain ⟨q, hq, hqc, hql⟩ := ev_at hes 8 2 rfl
  have HES := hid hes
  have HND := hid hnd
  have HQ := hid hq
  have HQC := hid hqc
  have HX := hid hx
  have HU := hid (hu.lt.mono (q := fun b => b < w.heap.size) (fun _ h => h.1))
  obtain ⟨a1, n1, c1, rfl, e1, m1, q1, _⟩ := hu
  rw [ints_length] at e1
  subst e1
  have q1' : c1 ≤ 9223372036854775807 := by simpa [maxLen] using q1
  have NUM := hid (show ∀ w0 : World, Keep (· < w.heap.size) w w0 → Calls Tryd.prog 19 #[.iface 217 (.pointer (some q))] w0 fun e w' => e = .returned (.int .i64 9) ∧ Keep (· < w0.heap.size) w0 w' from fun w0 k0 => num_at es 8 q w0 (HES.out.keep k0 (fun _ h => h)) HND.out HQ.out)
  have CODE := hid (show ∀ w0 : World, Keep (· < w.heap.size) w w0 → w0.cell? ⟨2, 0, none⟩ = some (.iface 217 (.pointer (some q))) ∧ 2 < w0.heap.size from fun w0 k0 => ⟨(k0.cell (x := ⟨2, 0, none⟩) hql).trans HQC.out, Nat.lt_of_lt_of_le hql k0.size⟩)
  clear hes hnd hq hqc hx hql q1
  go_enter Tryd.func4, Tryd.ntmps4
  go_wp2_with fail
  refine (alive20_walk _ _ (CODE.out _ (Keep.refl _ _)).1 (CODE.out _ (Keep.refl _ _)).2).mono ?_
  rintro e w1 ⟨rfl, k1⟩
  have K1 := hid k1
  clear k1
  by_cases hbig : 20000 < xs.length
  · have t1 : decide ((20000 : Int) < (xs.length : Int)) = true := by simp; omega
    clear hbig
    go_wp2_with fail
    go_ret
    exact ⟨rfl, K1.out⟩
  · have t1 : decide ((20000 : Int) < (xs.length : Int)) = false := by simp; omega
    have HB := hid (show xs.length ≤ 1099511627776 by omega)
    clear hbig
    obtain ⟨R, T, E, hget, hread, hcase⟩ := any_cases xs (.iface 217 (.pointer (some q))) HX.out
    have HGET := hid hget
    have HREAD := hid hread
    have HCASE := hid hcase
    clear hget hread hcase
    have HU1 := hid (HU.out.keep K1.out (fun _ h => h))
    go_wp2_with fail
    refine (bytes_walk _ xs w1 _ HB.out HU1.out).mono ?_
    rintro e w2 ⟨vi, rfl, k2, hm2⟩
    have K2 := hid (K1.out.trans (k2.mono (fun b h => Nat.lt_of_lt_of_le h K1.out.size)))
    obtain ⟨ga, gl, gc, rfl⟩ := cells_form hm2.cells
    have HM2 := hid (And.intro hm2 k2)
    clear hm2 k2 t1
    go_wp2_with fail
    refine (rpget_any _ xs q w2 _ HX.out HM2.out.1.cells (CODE.out _ K2.out).1 (CODE.out _ K2.out).2).mono ?_
    intro e w3 hg3
    obtain ⟨k3, v3, rfl, hr3⟩ := HGET.out _ _ _ hg3
    obtain ⟨a3, c3, rfl, hn3, hc3⟩ := hr3.form
    have K3 := hid (K2.out.trans (k3.mono (fun b h => Nat.lt_of_lt_of_le h K2.out.size)))
    have H3 := hid (And.intro k3 hr3.lt)
    clear k3 hr3 hg3
    have hi := rp_size R (.slice a3 R.races.length c3)
    have h1 := rp_one R a3 R.races.length c3
    have hold : (rpC noRep (.slice none 0 0)).toArray.size = (rpC R (.slice a3 R.races.length c3)).toArray.size := rfl
    go_upto_region 7 with (refine wpList_store_row rfl 26 (.tmp 4) (.tmp 19) rfl w3.heap.size (rpC R (.slice a3 R.races.length c3)).toArray rfl rfl 26 _ (heap_alloc_new w3 _) hi hold h1 ?_)
    refine wp_world (fun w4 => Keep (· < w3.heap.size) w3 w4 ∧ w4.heap[w3.heap.size]? = some (.cells (rpC R (.slice a3 R.races.length c3)).toArray 26 (0, 0)) ∧ w3.heap.size < w4.heap.size) ⟨((Keep.refl _ _).alloc _ (fun _ h => h)).setRow _ (by simp), heap_setRow (heap_alloc_new w3 _) _, by simp⟩ ?_
    rintro w4 ⟨k4, R4, z4⟩
    have K4 := hid (K3.out.trans (k4.mono (fun b h => Nat.lt_of_lt_of_le h K3.out.size)))
    have H4 := hid (And.intro k4 (And.intro R4 z4))
    have HU4 := hid (HU.out.keep K4.out (fun _ h => h))
    clear k4 R4 z4 hold HU1
    go_wp2_with fail
    refine (rread20_any _ xs w4 _ HX.out HU4.out).mono ?_
    intro e w5 hg5
    obtain ⟨k5, v5, rfl, hr5⟩ := HREAD.out _ _ _ hg5
    obtain ⟨a5, c5, rfl, hn5, hc5⟩ := hr5.form
    have K5 := hid (K4.out.trans (k5.mono (fun b h => Nat.lt_of_lt_of_le h K4.out.size)))
    have H5 := hid (And.intro k5 hr5.lt)
    clear k5 hr5 hg5 HU4
    have hi2 := rp_size R (.slice a5 R.races.length c5)
    have h12 := rp_one R a5 R.races.length c5
    have hold : (rpC noRep (.slice none 0 0)).toArray.size = (rpC R (.slice a5 R.races.length c5)).toArray.size := rfl
    go_upto_region 8 with (refine wpList_store_row rfl 26 (.tmp 6) (.tmp 24) rfl w5.heap.size (rpC R (.slice a5 R.races.length c5)).toArray rfl rfl 26 _ (heap_alloc_new w5 _) hi2 hold h12 ?_)
    refine wp_world (fun w6 => Keep (· < w5.heap.size) w5 w6 ∧ w6.heap[w5.heap.size]? = some (.cells (rpC R (.slice a5 R.races.length c5)).toArray 26 (0, 0)) ∧ w5.heap.size < w6.heap.size) ⟨((Keep.refl _ _).alloc _ (fun _ h => h)).setRow _ (by simp), heap_setRow (heap_alloc_new w5 _) _, by simp⟩ ?_
    rintro w6 ⟨k6, R6, z6⟩
    have K6 := hid (K5.out.trans (k6.mono (fun b h => Nat.lt_of_lt_of_le h K5.out.size)))
    have K46 : Keep (· < w4.heap.size) w4 w6 := H5.out.1.trans (k6.mono (fun b h => Nat.lt_of_lt_of_le h H5.out.1.size))
    have K36 : Keep (· < w3.heap.size) w3 w6 := H4.out.1.trans (K46.mono (fun b h => Nat.lt_of_lt_of_le h H4.out.1.size))
    have K26 : Keep (· < w2.heap.size) w2 w6 := H3.out.1.trans (K36.mono (fun b h => Nat.lt_of_lt_of_le h H3.out.1.size))
    have HV3 := hid ((H3.out.2.keep (q := fun k => k < w3.heap.size) K36 (fun _ h => h.1)).mono (q := fun k => k < w6.heap.size) (fun k h => Nat.lt_of_lt_of_le h.1 K36.size))
    have HV5 := hid ((H5.out.2.keep (q := fun k => k < w5.heap.size) k6 (fun _ h => h.1)).mono (q := fun k => k < w6.heap.size) (fun k h => Nat.lt_of_lt_of_le h.1 k6.size))
    have HM6 := hid (HM2.out.1.keep K26 (fun j _ h => h))
    have HU6 := hid (HU.out.keep K6.out (fun _ h => h))
    have HR := hid (And.intro ((K46.block _ H4.out.2.2).trans H4.out.2.1) (And.intro (Nat.lt_of_lt_of_le H4.out.2.2 K46.size) (And.intro R6 z6)))
    clear k6 R6 z6 K46 K36 K26 hold
    have SAME := hid (show ∀ w0 : World, Keep (· < w6.heap.size) w6 w0 → Calls Tryd.prog 22 #[.agg (rpC R (.slice a3 R.races.length c3)).toArray, .agg (rpC R (.slice a5 R.races.length c5)).toArray] w0 fun e w' => e = .returned (.bool true) ∧ Keep (· < w0.heap.size) w0 w' from fun w0 k0 => same_walk R _ _ w0 _ _ (HV3.out.keep k0 (fun _ h => h)) (HV5.out.keep k0 (fun _ h => h)))
    have KEPT := hid (show ∀ w0 : World, Keep (· < w6.heap.size) w6 w0 → Calls Tryd.prog 25 #[.slice ga gl gc, .slice a1 xs.length c1] w0 fun e w' => e = .returned (.bool true) ∧ Keep (fun _ => True) w0 w' from fun w0 k0 => kept_walk _ _ _ xs w0 _ HB.out (HM6.out.keep k0 (fun j _ h => h)) ((HU6.out.mono (q := fun b => b < w6.heap.size) (fun b h => Nat.lt_of_lt_of_le h K6.out.size)).keep k0 (fun _ h => h)))
    rcases HCASE.out with ⟨rfl, rfl, hok, hb⟩ | ⟨rfl, rfl⟩
    · have HOK := hid (And.intro hok hb)
      clear hok hb
      have HRX := hid (And.intro HR.out.1 HR.out.2.2.1)
      go_wp2_with (first
        | (refine wpList_load_row_if (by rfl) 26 (.tmp 4) rfl w3.heap.size rfl 26 _ (0, 0) _ HRX.out.1 Tryd.underlying26 rfl (by rw [List.size_toArray]; exact hi) ?_)
        | (refine wpList_load_row_if (by rfl) 26 (.tmp 6) rfl w5.heap.size rfl 26 _ (0, 0) _ HRX.out.2 Tryd.underlying26 rfl (by rw [List.size_toArray]; exact hi2) ?_))
      refine (SAME.out _ (Keep.refl _ _)).mono ?_
      rintro e w7 ⟨rfl, k7⟩
      have K7 := hid k7
      clear k7 HRX
      go_wp2_with fail
      refine (KEPT.out _ K7.out).mono ?_
      rintro e w8 ⟨rfl, k8⟩
      have K8 := hid (K7.out.trans (k8.mono (fun b _ => trivial)))
      have HR8 := hid ((K8.out.block _ HR.out.2.1).trans HR.out.1)
      have K08 := hid (K6.out.trans (K8.out.mono (fun b h => Nat.lt_of_lt_of_le h K6.out.size)))
      have GOOD := hid (rput_good R (.slice a3 R.races.length c3) _ w8 _ (HV3.out.keep K8.out (fun _ h => h)) (CODE.out _ K08.out).1 (CODE.out _ K08.out).2 HOK.out.1)
      rw [HOK.out.2] at GOOD
      clear k8
      go_wp2_with (refine wpList_load_row rfl 26 (.tmp 4) rfl w3.heap.size rfl 26 _ (0, 0) _ HR8.out Tryd.underlying26 rfl (by rw [List.size_toArray]; exact hi) ?_)
      refine GOOD.out.mono ?_
      rintro e w9 ⟨b, rfl, g⟩
      obtain ⟨ba, bl, bc, rfl⟩ := cells_form g.row.cells
      have K9 := hid (K08.out.trans (g.low.mono (fun b h => Nat.lt_of_lt_of_le h K08.out.size)))
      have cv9 := conv_bytes21 w9 g.row.cells
      have cu9 := conv_bytes21 w9 (HU.out.keep K9.out (fun _ h => h))
      have eF : ((bstr xs).toList == (bstr xs).toList) = true := by simp
      have HCV := hid (And.intro g.row.cells.lt (And.intro K9.out eF))
      clear g GOOD
      go_wp2_with fail
      go_ret
      exact ⟨rfl, HCV.out.2.1⟩
    · have HRX := hid (And.intro HR.out.1 HR.out.2.2.1)
      go_wp2_with fail
      refine (NUM.out _ K6.out).mono ?_
      rintro e w7 ⟨rfl, k7⟩
      have K7 := hid k7
      have HRX := hid (And.intro ((k7.block _ HR.out.2.1).trans HR.out.1) ((k7.block _ HR.out.2.2.2).trans HR.out.2.2.1))
      clear k7
      go_wp2_with (first
        | (refine wpList_load_row_if (by rfl) 26 (.tmp 4) rfl w3.heap.size rfl 26 _ (0, 0) _ HRX.out.1 Tryd.underlying26 rfl (by rw [List.size_toArray]; exact hi) ?_)
        | (refine wpList_load_row_if (by rfl) 26 (.tmp 6) rfl w5.heap.size rfl 26 _ (0, 0) _ HRX.out.2 Tryd.underlying26 rfl (by rw [List.size_toArray]; exact hi2) ?_))
      refine (SAME.out _ K7.out).mono ?_
      rintro e w8 ⟨rfl, k8⟩
      have K8 := hid (K7.out.trans (k8.mono (fun b h => Nat.lt_of_lt_of_le h K7.out.size)))
      clear k8 HRX
      go_wp2_with fail
      refine (KEPT.out _ K8.out).mono ?_
      rintro e w9 ⟨rfl, k9⟩
      have K9 := hid (K8.out.trans (k9.mono (fun b _ => trivial)))
      clear k9
      go_wp2_with fail
      go_ret
      exact ⟨rfl, K6.out.trans (K9.out.mono (fun b h => Nat.lt_of_lt_of_le h K6.out.size))⟩
end Go.Proofs.YtnpneippahdigaaDoor
