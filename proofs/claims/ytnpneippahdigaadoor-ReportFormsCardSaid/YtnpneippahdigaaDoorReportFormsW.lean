/-
  Step by step: ReportForms.
-/
import Derived.Test.YtnpneippahdigaaDoorRepF
import Derived.Test.YtnpneippahdigaaDoorRepG
import Derived.Test.YtnpneippahdigaaDoorRepH
import Derived.Test.YtnpneippahdigaaDoorRepL
namespace Go.Proofs.YtnpneippahdigaaDoor
open Go.RowKit Go.Proofs.Mem Go.Proofs.Txt

theorem i64_wf2 {n : Int} (h : (Lit.int .i64 n).wf = true) : -9223372036854775808 ≤ n ∧ n ≤ 9223372036854775807 := by
  simp [Lit.wf, IntKind.min, IntKind.max, IntKind.signed, IntKind.bits] at h
  omega
theorem conv_bytes20 (w : World) {p : Nat → Prop} {xs : List Nat} {a : Option Addr} {len cap : Nat} (h : Cells w p (.slice a len cap) (ints .u8 xs)) :
    (convert 32 9 (.slice a len cap)).run Tryd.prog w = .ok (.string (bstr xs)) w := convert_bytes 32 5 9 Tryd.underlying32 Tryd.underlying5 Tryd.underlying9 w h

set_option maxRecDepth 100000 in
set_option maxHeartbeats 4000000 in
theorem reportForms_walk (r : Rp.Rep) (rv : Value) (es : List Addr) (w : World) (hnw : (Lit.int .i64 r.n).wf = true) (hes : ErrsAt w errGs es) (hnd : es.Nodup) (hr : RacesAt w (fun _ => True) rv r.races) :
    Calls Tryd.prog 3 #[.agg (rpC r rv).toArray] w fun e w' => e = .returned (.bool true) ∧ Keep (· < w.heap.size) w w' := by
  obtain ⟨q, hq, hqc, hql⟩ := ev_at hes 8 2 rfl
  have HES := hid hes
  have HND := hid hnd
  have HQ := hid hq
  have HQC := hid hqc
  have HR := hid (hr.lt.mono (q := fun b => b < w.heap.size) (fun _ h => h.1))
  obtain ⟨va, vc, rfl, hc1, hc2⟩ := hr.form
  obtain ⟨N, hN⟩ : ∃ N, r.races.length = N := ⟨_, rfl⟩
  have HN := hid hN
  rw [hN] at hc1 HR ⊢
  have rs := rp_size r (.slice va N vc)
  have NUM := hid (show ∀ w0 : World, Keep (· < w.heap.size) w w0 → Calls Tryd.prog 19 #[.iface 217 (.pointer (some q))] w0 fun e w' => e = .returned (.int .i64 9) ∧ Keep (· < w0.heap.size) w0 w' from fun w0 k0 => num_at es 8 q w0 (HES.out.keep k0 (fun _ h => h)) HND.out HQ.out)
  have CODE := hid (show ∀ w0 : World, Keep (· < w.heap.size) w w0 → w0.cell? ⟨2, 0, none⟩ = some (.iface 217 (.pointer (some q))) ∧ 2 < w0.heap.size from fun w0 k0 => ⟨(k0.cell (x := ⟨2, 0, none⟩) hql).trans HQC.out, Nat.lt_of_lt_of_le hql k0.size⟩)
  have HNW := hid (i64_wf2 hnw)
  clear hes hnd hq hqc hr hN hnw hql
  go_enter Tryd.func3, Tryd.ntmps3
  have K0 := hid (show Keep (· < w.heap.size) w (w.alloc (.cells (rpC r (.slice va N vc)).toArray 26)) from (Keep.refl _ _).alloc _ (fun _ h => h))
  have R0 := hid (heap_alloc_new w (.cells (rpC r (.slice va N vc)).toArray 26))
  have z0 := hid (show w.heap.size < (w.alloc (.cells (rpC r (.slice va N vc)).toArray 26)).heap.size by simp)
  go_wp2_with fail
  refine (alive20_walk _ _ (CODE.out _ K0.out).1 (CODE.out _ K0.out).2).mono ?_
  rintro e w1 ⟨rfl, k1⟩
  have R1 := (k1.block _ z0.out).trans R0.out
  have c6 : w1.cell? ⟨w.heap.size, 6, none⟩ = some (.slice va N vc) := cell_at R1 6
  have K1 := hid (K0.out.trans (k1.mono (fun b h => Nat.lt_of_lt_of_le h K0.out.size)))
  have HZ1 := hid (show w.heap.size < w1.heap.size from Nat.lt_of_lt_of_le z0.out k1.size)
  have HR1 := hid R1
  clear k1 R1 R0 z0
  by_cases hbig : 1000 < N
  · have t1 : decide ((1000 : Int) < (N : Int)) = true := by simp; omega
    clear hbig
    go_wp2_with fail
    go_ret
    exact ⟨rfl, K1.out⟩
  · have t1 : decide ((1000 : Int) < (N : Int)) = false := by simp; omega
    have HB := hid hbig
    clear hbig
    obtain ⟨T, hT⟩ : ∃ T, Rp.ok r = T := ⟨_, rfl⟩
    have HT := hid hT
    have RR1 := hid (range_whole HR1.out)
    go_wp2_with (refine wpList_load_mid rfl 26 (.tmp 1) rfl w.heap.size 0 rfl (rpC r (.slice va N vc)) _ RR1.out Tryd.underlying26 rfl rs ?_)
    refine (rform_walk r (.slice va N vc) w1 _ (HR.out.keep K1.out (fun _ h => h))).mono ?_
    rintro e w2 ⟨rfl, k2⟩
    have K2 := hid (K1.out.trans (k2.mono (fun b h => Nat.lt_of_lt_of_le h K1.out.size)))
    have HR2 := hid ((k2.block _ HZ1.out).trans HR1.out)
    have HZ2 := hid (show w.heap.size < w2.heap.size from Nat.lt_of_lt_of_le HZ1.out k2.size)
    have RR2 := hid (range_whole HR2.out)
    clear k2 RR1 c6 t1
    rw [hT]
    go_wp2_with (refine wpList_load_mid rfl 26 (.tmp 1) rfl w.heap.size 0 rfl (rpC r (.slice va N vc)) _ RR2.out Tryd.underlying26 rfl rs ?_)
    refine (check_walk r (.slice va N vc) _ w2 _ (HR.out.keep K2.out (fun _ h => h)) (CODE.out _ K2.out).1 (CODE.out _ K2.out).2).mono ?_
    rintro e w3 ⟨rfl, k3⟩
    have K3 := hid (K2.out.trans (k3.mono (fun b h => Nat.lt_of_lt_of_le h K2.out.size)))
    have HR3 := hid ((k3.block _ HZ2.out).trans HR2.out)
    have HZ3 := hid (show w.heap.size < w3.heap.size from Nat.lt_of_lt_of_le HZ2.out k3.size)
    have RR3 := hid (range_whole HR3.out)
    clear k3 RR2
    rw [hT]
    clear hT
    cases T with
    | false =>
      simp only [Bool.false_eq_true, if_false]
      have BAD := hid (rput_bad r (.slice va N vc) q w3 _ (HR.out.keep K3.out (fun _ h => h)) (CODE.out _ K3.out).1 (CODE.out _ K3.out).2 HT.out)
      go_wp2_with (refine wpList_load_mid rfl 26 (.tmp 1) rfl w.heap.size 0 rfl (rpC r (.slice va N vc)) _ RR3.out Tryd.underlying26 rfl rs ?_)
      refine BAD.out.mono ?_
      rintro e w4 ⟨rfl, k4⟩
      have K4 := hid (K3.out.trans (k4.mono (fun b h => Nat.lt_of_lt_of_le h K3.out.size)))
      clear k4
      go_wp2_with fail
      refine (NUM.out _ K4.out).mono ?_
      rintro e w5 ⟨rfl, k5⟩
      have K5 := hid (K4.out.trans (k5.mono (fun b h => Nat.lt_of_lt_of_le h K4.out.size)))
      clear k5
      go_wp2_with fail
      refine (NUM.out _ K5.out).mono ?_
      rintro e w6 ⟨rfl, k6⟩
      have K6 := hid (K5.out.trans (k6.mono (fun b h => Nat.lt_of_lt_of_le h K5.out.size)))
      clear k6
      go_wp2_with fail
      go_ret
      exact ⟨rfl, K6.out⟩
    | true =>
      simp only [if_true]
      have GOOD := hid (rput_good r (.slice va N vc) _ w3 _ (HR.out.keep K3.out (fun _ h => h)) (CODE.out _ K3.out).1 (CODE.out _ K3.out).2 HT.out)
      go_wp2_with (refine wpList_load_mid rfl 26 (.tmp 1) rfl w.heap.size 0 rfl (rpC r (.slice va N vc)) _ RR3.out Tryd.underlying26 rfl rs ?_)
      refine GOOD.out.mono ?_
      rintro e w4 ⟨b, rfl, g⟩
      have K4 := hid (K3.out.trans (g.low.mono (fun b h => Nat.lt_of_lt_of_le h K3.out.size)))
      have HR4 := hid ((g.low.block _ HZ3.out).trans HR3.out)
      have HZ4 := hid (show w.heap.size < w4.heap.size from Nat.lt_of_lt_of_le HZ3.out g.low.size)
      have G4 := hid g
      have hbl : (Rp.bytes r).length = 21 + 11 * N := by rw [Rp.bytes_length, HN.out]
      have HC := hid (g.row.cells.lt)
      obtain ⟨ba, bl, bc, rfl⟩ := cells_form HC.out
      have hN128 : r.races.length ≤ 1000 := by have := HB.out; have := HN.out; omega
      have hcnt : cntOf (Rp.bytes r) = N := by
        have := cnt_bytes r [] (by omega)
        rwa [List.append_nil, HN.out] at this
      have HGET := hid (rpget_walk (.slice ba bl bc) (Rp.bytes r) q w4 _ (bytes_lt r) HC.out (by omega) (by rw [hbl, hcnt]) (CODE.out _ K4.out).1 (CODE.out _ K4.out).2)
      rw [getRep_bytes r HT.out HNW.out.1 HNW.out.2] at HGET
      have HN128 := hid hN128
      clear g hbl hcnt GOOD RR3 hN128
      go_wp2_with fail
      refine HGET.out.mono ?_
      rintro e w5 ⟨k5, v5, rfl, h5⟩
      obtain ⟨a5, c5, rfl, hn5, hc5⟩ := h5.form
      rw [HN.out] at hn5 ⊢
      have h5 : RacesAt w5 (fun b => w4.heap.size ≤ b) (.slice a5 N c5) r.races := by have := h5; rwa [HN.out] at this
      have H5 := hid (And.intro k5 h5)
      clear HGET k5 h5
      have hi := rp_size r (.slice a5 N c5)
      have h1 := rp_one r a5 N c5
      have hold : (rpC noRep (.slice none 0 0)).toArray.size = (rpC r (.slice a5 N c5)).toArray.size := rfl
      go_upto_region 11 with (refine wpList_store_row rfl 26 (.tmp 7) (.tmp 42) rfl w5.heap.size (rpC r (.slice a5 N c5)).toArray rfl rfl 26 _ (heap_alloc_new w5 _) hi hold h1 ?_)
      refine wp_world (fun w6 => Keep (· < w5.heap.size) w5 w6 ∧ w6.heap[w5.heap.size]? = some (.cells (rpC r (.slice a5 N c5)).toArray 26 (0, 0)) ∧ w5.heap.size < w6.heap.size) ⟨((Keep.refl _ _).alloc _ (fun _ h => h)).setRow _ (by simp), heap_setRow (heap_alloc_new w5 _) _, by simp⟩ ?_
      rintro w6 ⟨k6, R6, z6⟩
      have K5 := hid (K4.out.trans (H5.out.1.mono (fun b h => Nat.lt_of_lt_of_le h K4.out.size)))
      have K6 := hid (K5.out.trans (k6.mono (fun b h => Nat.lt_of_lt_of_le h K5.out.size)))
      have K46 : Keep (· < w4.heap.size) w4 w6 := H5.out.1.trans (k6.mono (fun b h => Nat.lt_of_lt_of_le h H5.out.1.size))
      have HC6 := hid ((HC.out.keep (q := fun k => k < w4.heap.size) K46 (fun _ h => h.1)).mono (q := fun k => k < w6.heap.size) (fun k h => Nat.lt_of_lt_of_le h.1 K46.size))
      have HR6 := hid ((K46.block _ HZ4.out).trans HR4.out)
      have HZ6 := hid (show w.heap.size < w6.heap.size from Nat.lt_of_lt_of_le HZ4.out K46.size)
      have HV6 := hid ((H5.out.2.lt.keep (q := fun k => k < w5.heap.size) k6 (fun _ h => h.1)).mono (q := fun k => k < w6.heap.size) (fun k h => Nat.lt_of_lt_of_le h.1 k6.size))
      have H6 := hid (And.intro R6 z6)
      clear k6 R6 z6 K46 hold
      have CV := hid (show ∀ wx : World, Keep (· < w6.heap.size) w6 wx → (convert 32 9 (.slice ba bl bc)).run Tryd.prog wx = .ok (.string (bstr (Rp.bytes r))) wx from fun wx kx => conv_bytes20 wx (HC6.out.keep kx (fun _ h => h)))
      refine wp_region_plan [true, true, true, true, true, true, true, true, true, true, true, true, true, true, false, false, true, true, true, true, true, false, true, false] (.free 0 (.free 1 (.free 2 (.free 3 (.free 4 (.free 5 (.free 6 (.free 7 (.free 8 (.free 9 (.free 10 (.free 11 (.free 12 (.free 13 (.one 14 (.one 15 (.free 16 (.free 17 (.free 18 (.free 19 (.free 20 (.one 21 (.free 22 (.last 23))))))))))))))))))))))))
        (fun wx => Keep (· < w6.heap.size) w6 wx) (by kernel_rfl) (by kernel_rfl) (Keep.refl _ _).drew ?_
      iterate 12 (refine plan_free rfl rfl (fun K hK => ?_); go_simp; refine hK _ ?_; clear hK K)
      refine plan_held (.string (bstr (Rp.bytes r))) rfl rfl (fun w0 h0 => by have := CV.out w0 h0; clear h0; go_simp) (fun K hK => ?_); go_simp; refine hK _ ?_; clear hK K
      refine plan_load rfl rfl 26 (.tmp 1) rfl w.heap.size 0 rfl (rpC r (.slice va N vc)) _ (fun w0 h0 => range_whole ((h0.block _ HZ6.out).trans HR6.out)) Tryd.underlying26 rfl rs (fun K hK => ?_); go_simp; refine hK _ ?_; clear hK K
      refine plan_one rfl rfl (fun K hK => ?_); go_simp
      refine (rbytes_walk r (.slice va N vc) _ _ (HR.out.keep (K6.out.trans ((Keep.refl (· < w6.heap.size) w6).drew.mono (fun b h => Nat.lt_of_lt_of_le h K6.out.size))) (fun _ h => h)) HN128.out).mono ?_
      rintro e w7 ⟨b7, rfl, g7⟩
      obtain ⟨a7, l7, c7, rfl⟩ := cells_form g7.row.cells
      have k7 : Keep (· < w6.heap.size) w6 w7 := (Keep.refl _ _).drew.trans g7.low
      have cv7 := conv_bytes20 w7 g7.row.cells
      refine hK _ _ ⟨k7, ?_⟩; clear hK K
      have H7 := hid k7
      clear g7 k7
      refine plan_one rfl rfl (fun K hK => ?_); go_simp
      refine hK _ _ ⟨H7.out, ?_⟩; clear hK K cv7
      have eF : ((bstr (Rp.bytes r)).toList == (bstr (Rp.bytes r)).toList) = true := by simp
      refine plan_free rfl rfl (fun K hK => ?_); go_simp; refine hK _ ?_; clear hK K
      refine plan_free rfl rfl (fun K hK => ?_); go_simp; refine hK _ ?_; clear hK K
      refine plan_free rfl rfl (fun K hK => ?_); go_simp; refine hK _ ?_; clear hK K
      refine plan_load rfl rfl 26 (.tmp 7) rfl w5.heap.size 0 rfl (rpC r (.slice a5 N c5)) _ (fun w0 h0 => range_whole ((h0.block _ H6.out.2).trans H6.out.1)) Tryd.underlying26 rfl hi (fun K hK => ?_); go_simp; refine hK _ ?_; clear hK K
      refine plan_load rfl rfl 26 (.tmp 1) rfl w.heap.size 0 rfl (rpC r (.slice va N vc)) _ (fun w0 h0 => range_whole ((h0.block _ HZ6.out).trans HR6.out)) Tryd.underlying26 rfl rs (fun K hK => ?_); go_simp; refine hK _ ?_; clear hK K
      refine plan_one rfl rfl (fun K hK => ?_); go_simp
      refine (same_walk r (.slice a5 N c5) (.slice va N vc) w7 _ _ (HV6.out.keep H7.out (fun _ h => h)) (HR.out.keep (K6.out.trans (H7.out.mono (fun b h => Nat.lt_of_lt_of_le h K6.out.size))) (fun _ h => h))).mono ?_
      rintro e w8 ⟨rfl, k8⟩
      have K8 := hid (H7.out.trans (k8.mono (fun b h => Nat.lt_of_lt_of_le h H7.out.size)))
      refine hK _ _ ⟨K8.out, ?_⟩; clear hK K k8
      refine plan_free rfl rfl (fun K hK => ?_); go_simp; refine hK _ ?_; clear hK K
      refine plan_last rfl rfl (fun K hK => ?_); go_simp; refine hK _ _ ?_; clear hK K
      go_wp2_with fail
      go_ret
      exact ⟨rfl, K6.out.trans (K8.out.mono (fun b h => Nat.lt_of_lt_of_le h K6.out.size))⟩
end Go.Proofs.YtnpneippahdigaaDoor
