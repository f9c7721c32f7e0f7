/-
  Step by step: the statement OrderTells.
-/
import Derived.Test.YtalihehmbiohlaaDoorOrdZ
import Derived.Test.YtalihehmbiohlaaDoorOrdEd
import Derived.Test.YtalihehmbiohlaaDoorOrdF
import Derived.Test.YtalihehmbiohlaaDoorInD
import Derived.Test.YtalihehmbiohlaaDoorNumErrC
namespace Go.Proofs.YtalihehmbiohlaaDoor
open Go.RowKit Go.Maps Go.Proofs.Mem Go.Proofs.Txt Go.Proofs.Ord Go.Proofs.Mp

set_option maxRecDepth 100000 in
set_option maxHeartbeats 8000000 in
theorem orderTells_walk (l : List Ev) (zs : List Int) (a b : Int) (tv rv : Value) (es : List Addr) (w : World) (hin : ∀ e ∈ l, Ev.inRange e) (hrw : ∀ r ∈ zs, r ≤ 9223372036854775807) (he : ErrsAt w (errGs.take 17) es) (hd : es.Nodup) (hv : EvsAt w (fun _ => True) tv l) (hr : Cells w (fun _ => True) rv (zs.map (Value.int .i64))) :
    Calls Tryd.prog 7 #[.agg #[tv, rv, .int .i64 a, .int .i64 b]] w fun e w' => e = .returned (.bool true) ∧ Keep (· < w.heap.size) w w' := by
  have HES : Hid (ErrsAt w errGs es) := he
  obtain ⟨ea, hea, _⟩ : ∃ q, es[0]? = some q ∧ _ := ev_at HES.out 0 _ rfl
  have HE : Hid (ErrAt w 0 ea) := by
    obtain ⟨g, h1, h2⟩ := errs_get HES.out 0 ea hea
    simp [errGs] at h1
    subst h1
    exact h2
  have NE := hid (show ∀ wx, Keep (· < w.heap.size) w wx → Calls Tryd.prog 16 #[.iface 133 (.pointer (some ea))] wx fun e w' => e = .returned (.int .i64 1) ∧ Keep (· < wx.heap.size) wx w' from fun wx kx => num_at es 0 ea wx (HES.out.keep kx (fun _ h => h)) hd hea)
  have HV := hid (hv.lt.mono (q := fun b => b < w.heap.size) (fun _ h => h.1))
  have HR := hid (hr.lt.mono (q := fun b => b < w.heap.size) (fun _ h => h.1))
  have HIN := hid hin
  have HRW := hid hrw
  obtain ⟨va, vc, rfl, hc1, hc2⟩ := hv.form
  obtain ⟨ra, rc, rfl⟩ : ∃ a c, rv = .slice a zs.length c := by
    obtain ⟨a, n, c, e, h1, _⟩ := hr
    rw [List.length_map] at h1
    exact ⟨a, c, by rw [e, h1]⟩
  clear hin he hv hr hrw hd hea
  go_enter Tryd.func7, Tryd.ntmps7
  go_upto_region 1 with fail
  refine wp_world (fun w0 => Keep (· < w.heap.size) w w0 ∧ w0.heap[w.heap.size]? = some (.cells ([.slice va l.length vc, .slice ra zs.length rc, .int .i64 a, .int .i64 b] : List Value).toArray 41 (0, 0))) ⟨(Keep.refl _ _).alloc _ (fun _ h => h), heap_alloc_new w _⟩ ?_
  rintro w0 ⟨k0, hX⟩
  obtain ⟨X, hX0⟩ : ∃ X, w.heap.size = X := ⟨_, rfl⟩
  have hX' : w0.heap[X]? = some (.cells ([.slice va l.length vc, .slice ra zs.length rc, .int .i64 a, .int .i64 b] : List Value).toArray 41 (0, 0)) := by rw [← hX0]; exact hX
  have K0 := hid k0
  rw [hX0]
  have c0 : w0.cell? ⟨X, 0, none⟩ = some (.slice va l.length vc) := cell_at hX' 0
  have c1 : w0.cell? ⟨X, 1, none⟩ = some (.slice ra zs.length rc) := cell_at hX' 1
  have c2 : w0.cell? ⟨X, 2, none⟩ = some (.int .i64 a) := cell_at hX' 2
  have c3 : w0.cell? ⟨X, 3, none⟩ = some (.int .i64 b) := cell_at hX' 3
  clear k0 hX hX' hX0
  go_quiet (fail)
  go_wp2_with fail
  clear c0 c1 c2 c3
  have kq := K0.out.drewN nq
  obtain ⟨wq, hwq⟩ : ∃ wq, w0.drewN nq = wq := ⟨_, rfl⟩
  rw [hwq] at kq ⊢
  have KQ := hid kq
  clear kq hwq
  refine (alive18_walk wq _ (HE.out.keep KQ.out HE.out.lt HE.out.blt).cell (HE.out.keep KQ.out HE.out.lt HE.out.blt).lt).mono ?_
  rintro e w1 ⟨rfl, k1⟩
  have K1 := hid (KQ.out.trans (k1.mono fun b hb => Nat.lt_of_lt_of_le hb KQ.out.size))
  clear k1
  have hcase : 60 < l.length ∨ (l.length ≤ 60 ∧ 100 < zs.length) ∨ (l.length ≤ 60 ∧ zs.length ≤ 100) := by omega
  rcases hcase with h2 | ⟨h2, h3⟩ | ⟨h2, h3⟩
  · have d2 : decide ((60 : Int) < (l.length : Int)) = true := by simp; omega
    go_wp2_with fail
    go_ret
    exact ⟨rfl, K1.out⟩
  · have d2 : decide ((60 : Int) < (l.length : Int)) = false := by simp; omega
    have d3 : decide ((100 : Int) < (zs.length : Int)) = true := by simp; omega
    go_wp2_with fail
    go_ret
    exact ⟨rfl, K1.out⟩
  · have d2 : decide ((60 : Int) < (l.length : Int)) = false := by simp; omega
    have d3 : decide ((100 : Int) < (zs.length : Int)) = false := by simp; omega
    have HEW := hid (HE.out.keep K1.out HE.out.lt HE.out.blt)
    have HFO := hid (show ∀ wx, Keep (· < w.heap.size) w wx → Calls Tryd.prog 12 #[.slice va l.length vc] wx fun e w' => e = .returned (.bool (l.all Ev.ok)) ∧ Keep (· < wx.heap.size) wx w' from fun wx kx => oform_walk l _ wx _ (HV.out.keep kx (fun _ h => h)))
    have HCK := hid (show ∀ wx, Keep (· < w.heap.size) w wx → Calls Tryd.prog 15 #[.slice va l.length vc] wx fun e w' => e = .returned (if l.all Ev.ok then .nilIface else .iface 133 (.pointer (some ea))) ∧ Keep (· < wx.heap.size) wx w' from fun wx kx => by
      have he := HE.out.keep kx HE.out.lt HE.out.blt
      exact ocheck_walk l _ _ wx _ (HV.out.keep kx (fun _ h => h)) he.cell he.lt)
    cases hok : l.all Ev.ok
    · rw [hok] at HFO HCK
      have HC := hid (clocks_bad l (.slice va l.length vc) (.slice ra zs.length rc) _ w1 _ (HV.out.keep K1.out (fun _ h => h)) HEW.out.cell HEW.out.lt hok ⟨_, _, rfl⟩)
      have HB := hid (show ∀ wx, Keep (· < w.heap.size) w wx → Calls Tryd.prog 14 #[.slice va l.length vc, .slice ra zs.length rc, .int .i64 a, .int .i64 b] wx fun e w' => e = .returned (.tuple #[.bool false, .iface 133 (.pointer (some ea))]) ∧ Keep (· < wx.heap.size) wx w' from fun wx kx => by
        have he := HE.out.keep kx HE.out.lt HE.out.blt
        exact before_bad l _ _ _ a b wx _ (HV.out.keep kx (fun _ h => h)) he.cell he.lt hok ⟨_, _, rfl⟩)
      have HO := hid hok
      clear hok
      go_wp2_with fail
      refine HC.out.mono ?_
      rintro e w2 ⟨rfl, k2⟩
      have K2 := hid (K1.out.trans (k2.mono fun b hb => Nat.lt_of_lt_of_le hb K1.out.size))
      clear k2
      go_wp2_with fail
      refine (HB.out _ K2.out).mono ?_
      rintro e w3 ⟨rfl, k3⟩
      have K3 := hid (K2.out.trans (k3.mono fun b hb => Nat.lt_of_lt_of_le hb K2.out.size))
      clear k3
      go_wp2_with fail
      refine (HCK.out _ K3.out).mono ?_
      rintro e w4 ⟨rfl, k4⟩
      have K4 := hid (K3.out.trans (k4.mono fun b hb => Nat.lt_of_lt_of_le hb K3.out.size))
      clear k4
      simp only [Bool.false_eq_true, ↓reduceIte]
      go_wp2_with fail
      refine (HFO.out _ K4.out).mono ?_
      rintro e w5 ⟨rfl, k5⟩
      have K5 := hid (K4.out.trans (k5.mono fun b hb => Nat.lt_of_lt_of_le hb K4.out.size))
      clear k5
      go_wp2_with fail
      refine (NE.out _ K5.out).mono ?_
      rintro e w6 ⟨rfl, k6⟩
      have K6 := hid (K5.out.trans (k6.mono fun b hb => Nat.lt_of_lt_of_le hb K5.out.size))
      clear k6
      go_wp2_with fail
      refine (NE.out _ K6.out).mono ?_
      rintro e w7 ⟨rfl, k7⟩
      have K7 := hid (K6.out.trans (k7.mono fun b hb => Nat.lt_of_lt_of_le hb K6.out.size))
      clear k7
      go_wp2_with fail
      refine (NE.out _ K7.out).mono ?_
      rintro e w8 ⟨rfl, k8⟩
      have K8 := hid (K7.out.trans (k8.mono fun b hb => Nat.lt_of_lt_of_le hb K7.out.size))
      clear k8
      go_wp2_with fail
      go_ret
      exact ⟨rfl, K8.out⟩
    · rw [hok] at HFO HCK
      have HC := hid (clocks_good zs l (.slice va l.length vc) (.slice ra zs.length rc) _ w1 _ _ (HV.out.keep K1.out (fun _ h => h)) (HR.out.keep K1.out (fun _ h => h)) HEW.out.cell HEW.out.lt hok (fun e he => (HIN.out e he).2.2.1) (by omega) HRW.out)
      have HO := hid hok
      have HB := hid (show ∀ wx, Keep (· < w.heap.size) w wx → Calls Tryd.prog 14 #[.slice va l.length vc, .slice ra zs.length rc, .int .i64 a, .int .i64 b] wx fun e w' => e = .returned (if 0 ≤ a ∧ 0 ≤ b ∧ a < l.length ∧ b < l.length then .tuple #[.bool (decide (a < b) && aheadB zs l a.toNat b.toNat), .nilIface] else .tuple #[.bool false, .iface 133 (.pointer (some ea))]) ∧ Keep (· < wx.heap.size) wx w' from fun wx kx => by
        have he := HE.out.keep kx HE.out.lt HE.out.blt
        exact before_walk zs l _ _ _ a b wx _ _ (HV.out.keep kx (fun _ h => h)) (HR.out.keep kx (fun _ h => h)) he.cell he.lt HO.out (fun e he => (HIN.out e he).2.2.1) (by omega) HRW.out ⟨_, _, rfl⟩)
      clear hok
      go_wp2_with fail
      refine HC.out.mono ?_
      rintro e w2 ⟨o2, rfl, q2, k2⟩
      obtain ⟨oa, oc, rfl, ho1, ho2⟩ := q2.form
      have K2 := hid (K1.out.trans (k2.mono fun b hb => Nat.lt_of_lt_of_le hb K1.out.size))
      have Q2 := hid (q2.lt.mono (q := fun b => b < w2.heap.size) (fun _ h => h.1))
      clear q2 k2
      obtain ⟨z, E, hzE, hcs⟩ : ∃ (z : Bool) (E : Value), (if 0 ≤ a ∧ 0 ≤ b ∧ a < l.length ∧ b < l.length then (.tuple #[.bool (decide (a < b) && aheadB zs l a.toNat b.toNat), .nilIface] : Value) else .tuple #[.bool false, .iface 133 (.pointer (some ea))]) = .tuple #[.bool z, E] ∧
          (((0 ≤ a ∧ 0 ≤ b ∧ a < l.length ∧ b < l.length) ∧ z = (decide (a < b) && aheadB zs l a.toNat b.toNat) ∧ E = .nilIface) ∨ (¬ (0 ≤ a ∧ 0 ≤ b ∧ a < l.length ∧ b < l.length) ∧ z = false ∧ E = .iface 133 (.pointer (some ea)))) := by
        by_cases h : 0 ≤ a ∧ 0 ≤ b ∧ a < l.length ∧ b < l.length
        · exact ⟨_, _, if_pos h, .inl ⟨h, rfl, rfl⟩⟩
        · exact ⟨_, _, if_neg h, .inr ⟨h, rfl, rfl⟩⟩
      rw [hzE] at HB
      have HCS := hid hcs
      clear hzE hcs
      go_wp2_with fail
      refine (HB.out _ K2.out).mono ?_
      rintro e w3 ⟨rfl, k3⟩
      have K3 := hid (K2.out.trans (k3.mono fun b hb => Nat.lt_of_lt_of_le hb K2.out.size))
      have Q3 := hid (Q2.out.keep k3 (fun _ h => h))
      have k23 := K2.out.size
      clear k3
      go_wp2_with fail
      refine (HCK.out _ K3.out).mono ?_
      rintro e w4 ⟨rfl, k4⟩
      have K4 := hid (K3.out.trans (k4.mono fun b hb => Nat.lt_of_lt_of_le hb K3.out.size))
      have Q4 := hid ((Q3.out.lt.mono (q := fun b => b < w3.heap.size) (fun _ h => h.1)).keep k4 (fun _ h => h))
      clear k4 k23
      simp only [↓reduceIte]
      go_wp2_with fail
      refine (HFO.out _ K4.out).mono ?_
      rintro e w5 ⟨rfl, k5⟩
      have K5 := hid (K4.out.trans (k5.mono fun b hb => Nat.lt_of_lt_of_le hb K4.out.size))
      have Q5 := hid ((Q4.out.lt.mono (q := fun b => b < w4.heap.size) (fun _ h => h.1)).keep k5 (fun _ h => h))
      clear k5
      go_wp2_with fail
      refine (table_walk zs l _ _ w5 _ _ (HV.out.keep K5.out (fun _ h => h)) (HR.out.keep K5.out (fun _ h => h)) HO.out (by omega) (by omega) HRW.out).mono ?_
      rintro e w6 ⟨T, bs, rfl, hT⟩
      have K6 := hid (K5.out.trans (hT.keep.mono fun b hb => Nat.lt_of_lt_of_le hb K5.out.size))
      have Q6 := hid ((Q5.out.lt.mono (q := fun b => b < w5.heap.size) (fun _ h => h.1)).keep hT.keep (fun _ h => h))
      have HT := hid hT
      clear hT
      go_wp2_with fail
      go_loopg [91] l.length (fun k s91 wr => ∃ j : Nat, j + k = l.length ∧ s91 = .int .i64 (j : Int) ∧ Keep (fun b => b < w6.heap.size) w6 wr)
      case atStart => exact ⟨0, by omega, rfl, Keep.refl _ _⟩
      case round =>
        obtain ⟨j, hjk, rfl, hin⟩ := hrel
        have HI := hid (And.intro hin hjk)
        by_cases hlt : j < l.length
        · have l0 : (j : Int) < (l.length : Int) := by omega
          obtain ⟨b1, f1, xa, xn, xc, rfl, p1, c1, k1⟩ := ((Q6.out.lt.mono (q := fun b => b < w6.heap.size) (fun _ h => h.1)).keep hin (fun _ h => h)).get j hlt
          have CL := hid k1
          have HC18 := hid (show ∀ wx, Keep (· < wr.heap.size) wr wx → Calls Tryd.prog 19 #[.slice va l.length vc, .slice (some ⟨T, 0, none⟩) l.length l.length, .int .i64 (j : Int)] wx fun e w' => ∃ a n c, e = .returned (.slice a n c) ∧ Cells w' (fun b => wx.heap.size ≤ b) (.slice a n c) (ints .i64 (short (clockAt zs l j))) ∧ Keep (· < wx.heap.size) wx w' from fun wx kx => by
            have k6 := HI.out.1.trans (kx.mono fun b hb => Nat.lt_of_lt_of_le hb HI.out.1.size)
            exact clock18_walk zs l _ T j bs w5 wx _ (HV.out.keep (K6.out.trans (k6.mono fun b hb => Nat.lt_of_lt_of_le hb K6.out.size)) (fun _ h => h)) (HT.out.next k6) HO.out hlt (by omega))
          have hc1 : ∀ wx, Keep (· < wr.heap.size) wr wx → wx.cell? ⟨b1, f1 + j, none⟩ = some (.slice xa xn xc) := fun wx kx => (kx.cell (x := ⟨b1, f1 + j, none⟩) (Nat.lt_of_lt_of_le p1 HI.out.1.size)).trans c1
          have HCC := hid hc1
          clear hin hjk k1 hc1
          go_upto_region 17 with fail
          refine wp_region_plan [true, true, true, true, true, true, true, false, false, true] (.free 0 (.free 1 (.free 2 (.free 3 (.free 4 (.free 5 (.free 6 (.one 7 (.one 8 (.free 9 (.done))))))))))) (fun wx => wx.cell? ⟨b1, f1 + j, none⟩ = some (.slice xa xn xc)) (by kernel_rfl) (by kernel_rfl) (show wr.drew.cell? _ = _ from c1) ?_
          iterate 3 (refine plan_free rfl rfl (fun K hK => ?_); go_simp; refine hK _ ?_; clear hK K)
          refine plan_held (.slice xa xn xc) rfl rfl (fun w0 h0 => by go_simp) (fun K hK => ?_); refine hK _ ?_; clear hK K
          iterate 3 (refine plan_free rfl rfl (fun K hK => ?_); go_simp; refine hK _ ?_; clear hK K)
          refine plan_one rfl rfl (fun K hK => ?_); go_simp
          refine (HC18.out _ ((Keep.refl _ _).drew)).mono ?_
          rintro e w7 ⟨ya, yn, yc, rfl, c7, k7⟩
          have k7' := ((Keep.refl (· < wr.heap.size) wr).drew).trans k7
          refine hK _ _ ⟨HCC.out _ k7', ?_⟩; clear hK K
          have H7 := hid (And.intro c7 k7')
          clear c7 k7 k7'
          refine plan_one rfl rfl (fun K hK => ?_); go_simp
          refine (sameInts_walk _ _ _ w7 _ _ (CL.out.keep H7.out.2 (fun _ h => Nat.lt_of_lt_of_le h HI.out.1.size)) H7.out.1).mono ?_
          rintro e w8 ⟨rfl, k8⟩
          have k8' := H7.out.2.trans (k8.mono fun _ _ => trivial)
          refine hK _ _ ⟨HCC.out _ k8', ?_⟩; clear hK K
          have H8 := hid k8'
          clear k8 k8'
          refine plan_free rfl rfl (fun K hK => ?_); go_simp; refine hK _ ?_; clear hK K
          unfold runs
          go_wp2_with fail
          go_roundg (gk - 1)
          case measure => have := HI.out.2; omega
          case rel => exact ⟨j + 1, by have := HI.out.2; omega, by go_num, HI.out.1.trans (H8.out.mono fun b hb => Nat.lt_of_lt_of_le hb HI.out.1.size)⟩
        · obtain rfl : l.length = j := by omega
          have KL := hid (K6.out.trans (hin.mono fun b hb => Nat.lt_of_lt_of_le hb K6.out.size))
          have HTW := hid (HT.out.next hin)
          clear hin hjk hlt
          rcases HCS.out with ⟨⟨ha, hb, hal, hbl⟩, hz, rfl⟩ | ⟨hno, hz, rfl⟩
          · obtain ⟨A, rfl⟩ := Int.eq_ofNat_of_zero_le ha
            obtain ⟨B, rfl⟩ := Int.eq_ofNat_of_zero_le hb
            have hA : A < l.length := by omega
            have hB : B < l.length := by omega
            have hz2 : z = hbB zs l B A := by rw [hz]; unfold hbB; simp
            have cT := HTW.out.cellT (i := B) hB
            have cR := HTW.out.cellR (i := B) (k := A) hB hA
            rw [← hz2] at cR
            clear hz hz2 ha hb
            go_wp2_with fail
            go_ret
            exact ⟨rfl, KL.out⟩
          · subst hz
            have hneg : (a < 0) ∨ (0 ≤ a ∧ b < 0) ∨ (0 ≤ a ∧ 0 ≤ b ∧ (l.length : Int) ≤ a) ∨ (0 ≤ a ∧ 0 ≤ b ∧ a < l.length ∧ (l.length : Int) ≤ b) := by omega
            have fin := hid (NE.out _ KL.out)
            clear hno
            rcases hneg with h | ⟨h1, h⟩ | ⟨h1, h4, h⟩ | ⟨h1, h4, h5, h⟩
            · have t1 : decide (a < 0) = true := by simp [h]
              go_wp2_with fail
              refine fin.out.mono ?_
              rintro e w9 ⟨rfl, k9⟩
              have K9 := hid (KL.out.trans (k9.mono fun b hb => Nat.lt_of_lt_of_le hb KL.out.size))
              clear k9
              go_wp2_with fail
              go_ret
              exact ⟨rfl, K9.out⟩
            · have t1 : decide (a < 0) = false := by simp; omega
              have t2 : decide (b < 0) = true := by simp [h]
              go_wp2_with fail
              refine fin.out.mono ?_
              rintro e w9 ⟨rfl, k9⟩
              have K9 := hid (KL.out.trans (k9.mono fun b hb => Nat.lt_of_lt_of_le hb KL.out.size))
              clear k9
              go_wp2_with fail
              go_ret
              exact ⟨rfl, K9.out⟩
            · have t1 : decide (a < 0) = false := by simp; omega
              have t2 : decide (b < 0) = false := by simp; omega
              have t3 : decide ((l.length : Int) ≤ a) = true := by simp; omega
              go_wp2_with fail
              refine fin.out.mono ?_
              rintro e w9 ⟨rfl, k9⟩
              have K9 := hid (KL.out.trans (k9.mono fun b hb => Nat.lt_of_lt_of_le hb KL.out.size))
              clear k9
              go_wp2_with fail
              go_ret
              exact ⟨rfl, K9.out⟩
            · have t1 : decide (a < 0) = false := by simp; omega
              have t2 : decide (b < 0) = false := by simp; omega
              have t3 : decide ((l.length : Int) ≤ a) = false := by simp; omega
              have t4 : decide ((l.length : Int) ≤ b) = true := by simp; omega
              go_wp2_with fail
              refine fin.out.mono ?_
              rintro e w9 ⟨rfl, k9⟩
              have K9 := hid (KL.out.trans (k9.mono fun b hb => Nat.lt_of_lt_of_le hb KL.out.size))
              clear k9
              go_wp2_with fail
              go_ret
              exact ⟨rfl, K9.out⟩
end Go.Proofs.YtalihehmbiohlaaDoor
