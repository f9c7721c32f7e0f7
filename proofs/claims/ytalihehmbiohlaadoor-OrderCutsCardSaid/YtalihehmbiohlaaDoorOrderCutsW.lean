/-
  Step by step: the statement OrderCuts.
-/
import Derived.Test.YtalihehmbiohlaaDoorOrdWi
import Derived.Test.YtalihehmbiohlaaDoorOrdN
import Derived.Test.YtalihehmbiohlaaDoorOrdF
import Derived.Test.YtalihehmbiohlaaDoorInC
import Derived.BigQuiet
namespace Go.Proofs.YtalihehmbiohlaaDoor
open Go.RowKit Go.Maps Go.Proofs.Mem Go.Proofs.Txt Go.Proofs.Ord Go.Proofs.Mp

theorem umod1 (x : Int) (n : Nat) (hn : n ≤ 1000) : ∃ r : Nat, r ≤ n ∧ (IntKind.u64.wrap x).tmod ((n : Int) + 1) = (r : Int) := by
  have h1 : 0 ≤ IntKind.u64.wrap x := by rw [IntKind.wrap_u64]; omega
  rw [Int.tmod_eq_emod_of_nonneg h1]
  have h2 := Int.emod_nonneg (IntKind.u64.wrap x) (show ((n : Int) + 1) ≠ 0 by omega)
  have h3 := Int.emod_lt_of_pos (IntKind.u64.wrap x) (show 0 < ((n : Int) + 1) by omega)
  exact ⟨((IntKind.u64.wrap x) % ((n : Int) + 1)).toNat, by omega, by omega⟩
theorem EvsAt.take {w : World} {p : Nat → Prop} {va : Option Addr} {n vc : Nat} {l : List Ev} (h : EvsAt w p (.slice va n vc) l) (m : Nat) (hm : m ≤ l.length) : EvsAt w p (.slice va m vc) (l.take m) := by
  obtain ⟨a, len, cap, e, h1, h2, h3, h4⟩ := h
  cases e
  refine ⟨va, m, vc, rfl, by rw [List.length_take]; omega, by omega, h3, fun i x hx => h4 i x ?_⟩
  rw [List.getElem?_take] at hx
  split at hx
  · exact hx
  · cases hx
theorem rcC_len {l : List Rc} : ∀ x ∈ l.map rcC, x.length = 5 := fun x hx => by obtain ⟨e, _, rfl⟩ := List.mem_map.1 hx; rfl

set_option maxRecDepth 100000 in
set_option maxHeartbeats 8000000 in
theorem orderCuts_walk (v : Value) (l : List Ev) (rv : Value) (zs : List Int) (cut : Int) (ea : Addr) (w : World) (hin : ∀ e ∈ l, Ev.inRange e) (hrw : ∀ r ∈ zs, r ≤ 9223372036854775807) (he1 : ErrAt w 0 ea) (hv : EvsAt w (fun _ => True) v l) (hr : Cells w (fun _ => True) rv (zs.map (Value.int .i64))) :
    Calls Tryd.prog 4 #[v, rv, .int .i64 cut] w fun e w' => e = .returned (.bool true) ∧ Keep (· < w.heap.size) w w' := by
  have HE := hid he1
  have HV := hid (hv.lt.mono (q := fun b => b < w.heap.size) (fun _ h => h.1))
  have HR := hid (hr.lt.mono (q := fun b => b < w.heap.size) (fun _ h => h.1))
  have HIN := hid hin
  have HRW := hid hrw
  obtain ⟨va, vc, rfl, hc1, hc2⟩ := hv.form
  obtain ⟨ra, rc, rfl⟩ : ∃ a c, rv = .slice a zs.length c := by
    obtain ⟨a, n, c, e, h1, _⟩ := hr
    rw [List.length_map] at h1
    exact ⟨a, c, by rw [e, h1]⟩
  clear hin he1 hv hr hrw
  go_enter Tryd.func4, Tryd.ntmps4
  go_wp2_with fail
  refine (alive18_walk w _ HE.out.cell HE.out.lt).mono ?_
  rintro e w1 ⟨rfl, k1⟩
  have K1 := hid k1
  clear k1
  have hcase : 100 < l.length ∨ (l.length ≤ 100 ∧ 100 < zs.length) ∨ (l.length ≤ 100 ∧ zs.length ≤ 100) := by omega
  rcases hcase with h2 | ⟨h2, h3⟩ | ⟨h2, h3⟩
  · have d2 : decide ((100 : Int) < (l.length : Int)) = true := by simp; omega
    go_wp2_with fail
    go_ret
    exact ⟨rfl, K1.out⟩
  · have d2 : decide ((100 : Int) < (l.length : Int)) = false := by simp; omega
    have d3 : decide ((100 : Int) < (zs.length : Int)) = true := by simp; omega
    go_wp2_with fail
    go_ret
    exact ⟨rfl, K1.out⟩
  · have d2 : decide ((100 : Int) < (l.length : Int)) = false := by simp; omega
    have d3 : decide ((100 : Int) < (zs.length : Int)) = false := by simp; omega
    obtain ⟨C, hC, eC⟩ := umod1 cut l.length (by omega)
    have HEW := hid (HE.out.keep K1.out HE.out.lt HE.out.blt)
    cases hok : l.all Ev.ok
    · have HC := hid (clocks_bad l (.slice va l.length vc) (.slice ra zs.length rc) _ w1 _ (HV.out.keep K1.out (fun _ h => h)) HEW.out.cell HEW.out.lt hok ⟨_, _, rfl⟩)
      have HO := hid hok
      clear hok
      go_wp2_with fail
      refine HC.out.mono ?_
      rintro e w2 ⟨rfl, k2⟩
      have K2 := hid (K1.out.trans (k2.mono fun b hb => Nat.lt_of_lt_of_le hb K1.out.size))
      clear k2
      go_wp2_with fail
      refine (oform_walk l (.slice va l.length vc) w2 _ (HV.out.keep K2.out (fun _ h => h))).mono ?_
      rintro e w3 ⟨rfl, k3⟩
      rw [HO.out]
      have K3 := hid (K2.out.trans (k3.mono fun b hb => Nat.lt_of_lt_of_le hb K2.out.size))
      clear k3
      go_wp2_with fail
      go_ret
      exact ⟨rfl, K3.out⟩
    · have HO := hid hok
      have HO2 := hid (show (l.take C).all Ev.ok = true from List.all_eq_true.2 fun e he => List.all_eq_true.1 hok e (List.mem_of_mem_take he))
      clear hok
      have hlt : (l.take C).length = C := by rw [List.length_take]; omega
      have HLT := hid hlt
      clear hlt
      have HC1 := hid (clocks_good zs l (.slice va l.length vc) (.slice ra zs.length rc) _ w1 _ _ (HV.out.keep K1.out (fun _ h => h)) (HR.out.keep K1.out (fun _ h => h)) HEW.out.cell HEW.out.lt HO.out (fun e he => (HIN.out e he).2.2.1) (by omega) HRW.out)
      have HC2 := hid (show ∀ wx : World, Keep (· < w.heap.size) w wx → Calls Tryd.prog 11 #[.slice va C vc, .slice ra zs.length rc] wx fun e w' => ∃ out, e = .returned (.tuple #[out, .nilIface]) ∧ ClksAt w' (fun b => wx.heap.size ≤ b) out C (clockAt zs (l.take C)) ∧ Keep (· < wx.heap.size) wx w' from fun wx kx => by
        have he := HE.out.keep kx HE.out.lt HE.out.blt
        have := clocks_good zs (l.take C) (.slice va C vc) (.slice ra zs.length rc) _ wx _ _ ((HV.out.keep kx (fun _ h => h)).take C hC) (HR.out.keep kx (fun _ h => h)) he.cell he.lt HO2.out (fun e he => (HIN.out e (List.mem_of_mem_take he)).2.2.1) (by rw [HLT.out]; omega) HRW.out
        rwa [HLT.out] at this)
      have HR1 := hid (show ∀ wx : World, Keep (· < w.heap.size) w wx → Calls Tryd.prog 10 #[.slice va l.length vc, .slice ra zs.length rc] wx fun e w' => ∃ out, e = .returned (.tuple #[out, .nilIface]) ∧ OwnS wx.heap.size w' 56 5 out ((racesP zs l).map rcC) ∧ Keep (· < wx.heap.size) wx w' from fun wx kx => by
        have he := HE.out.keep kx HE.out.lt HE.out.blt
        exact races_walk zs l (.slice va l.length vc) (.slice ra zs.length rc) _ wx _ _ (HV.out.keep kx (fun _ h => h)) (HR.out.keep kx (fun _ h => h)) he.cell he.lt HO.out (fun e he => (HIN.out e he).2.2.1) (by omega) HRW.out)
      have HR2 := hid (show ∀ wx : World, Keep (· < w.heap.size) w wx → Calls Tryd.prog 10 #[.slice va C vc, .slice ra zs.length rc] wx fun e w' => ∃ out, e = .returned (.tuple #[out, .nilIface]) ∧ OwnS wx.heap.size w' 56 5 out ((racesP zs (l.take C)).map rcC) ∧ Keep (· < wx.heap.size) wx w' from fun wx kx => by
        have he := HE.out.keep kx HE.out.lt HE.out.blt
        exact races_walk zs (l.take C) (.slice va C vc) (.slice ra zs.length rc) _ wx _ _ ((HV.out.keep kx (fun _ h => h)).take C hC) (HR.out.keep kx (fun _ h => h)) he.cell he.lt HO2.out (fun e he => (HIN.out e (List.mem_of_mem_take he)).2.2.1) (by rw [HLT.out]; omega) HRW.out)
      go_wp2_with fail
      refine HC1.out.mono ?_
      rintro e w2 ⟨o2, rfl, q2, k2⟩
      obtain ⟨oa, oc, rfl, ho1, ho2⟩ := q2.form
      have K2 := hid (K1.out.trans (k2.mono fun b hb => Nat.lt_of_lt_of_le hb K1.out.size))
      have Q2 := hid (q2.lt.mono (q := fun b => b < w2.heap.size) (fun _ h => h.1))
      clear q2 k2
      go_wp2_with fail
      refine (HC2.out w2 K2.out).mono ?_
      rintro e w3 ⟨o3, rfl, q3, k3⟩
      obtain ⟨pa, pc, rfl, hp1, hp2⟩ := q3.form
      have K3 := hid (K2.out.trans (k3.mono fun b hb => Nat.lt_of_lt_of_le hb K2.out.size))
      have Q3 := hid (And.intro (Q2.out.keep k3 (fun _ h => h)) q3)
      clear q3 k3
      go_wp2_with fail
      go_loopg [64] C (fun k s64 wr => ∃ i : Nat, i + k = C ∧ s64 = .int .i64 (i : Int) ∧ Keep (fun b => b < w3.heap.size) w3 wr)
      case atStart => exact ⟨0, by omega, rfl, Keep.refl _ _⟩
      case round =>
        obtain ⟨i, hik, rfl, hin⟩ := hrel
        have HI := hid (And.intro hin hik)
        by_cases hlt : i < C
        · have l0 : (i : Int) < (C : Int) := by omega
          have q1 := ((Q3.out.1.lt.mono (q := fun b => b < w3.heap.size) (fun _ h => h.1)).keep hin (fun _ h => h)).get i (by omega)
          have q2 := ((Q3.out.2.lt.mono (q := fun b => b < w3.heap.size) (fun _ h => h.1)).keep hin (fun _ h => h)).get i hlt
          rw [clockAt_take zs l C i hlt hC] at q2
          obtain ⟨xs, hxs⟩ : ∃ xs, short (clockAt zs l i) = xs := ⟨_, rfl⟩
          rw [hxs] at q1 q2
          have hs8 : xs.length ≤ 1000 := by rw [← hxs]; exact Nat.le_trans (short_length _) (by decide)
          obtain ⟨b1, f1, xa, xn, xc, rfl, p1, c1, k1⟩ := q1
          obtain ⟨b2, f2, ya, yn, yc, rfl, p2, c2, k2⟩ := q2
          obtain ⟨N, hN⟩ : ∃ N, xs.length = N := ⟨_, rfl⟩
          obtain rfl : xn = N := by obtain ⟨_, _, _, e, e1, _⟩ := id k1; cases e; rw [ints_length] at e1; omega
          obtain rfl : yn = xn := by obtain ⟨_, _, _, e, e1, _⟩ := id k2; cases e; rw [ints_length] at e1; omega
          have H1 := hid (And.intro k1 (And.intro k2 hN))
          have hi1 : i < l.length := by omega
          have hy8 : yn ≤ 1000 := by omega
          clear hxs hN k1 k2 p1 p2 hin hik hlt hs8
          go_wp2_with fail
          go_quiet (fail)
          go_wp2_with fail
          have kq := HI.out.1.drewN nq
          obtain ⟨wq, hwq⟩ : ∃ wq, wr.drewN nq = wq := ⟨_, rfl⟩
          rw [hwq]
          obtain ⟨gk0, rfl⟩ : ∃ g : Nat, g = gk := ⟨_, rfl⟩
          rw [hwq] at kq
          have HQ := hid kq
          have d1 : wq.cell? ⟨b1, f1 + i, none⟩ = some (.slice xa yn xc) := by rw [← hwq]; exact c1
          have d2 : wq.cell? ⟨b2, f2 + i, none⟩ = some (.slice ya yn yc) := by rw [← hwq]; exact c2
          have H2 := hid (show Cells wq (fun b => b < w3.heap.size) (.slice xa yn xc) (ints .i64 xs) ∧ Cells wq (fun b => b < w3.heap.size) (.slice ya yn yc) (ints .i64 xs) ∧ xs.length = yn from ⟨hwq ▸ H1.out.1.keep ((Keep.refl (fun _ => True) wr).drewN nq) (fun _ _ => trivial), hwq ▸ H1.out.2.1.keep ((Keep.refl (fun _ => True) wr).drewN nq) (fun _ _ => trivial), H1.out.2.2⟩)
          have D := hid (And.intro d1 d2)
          clear c1 c2 H1 hwq kq d1 d2
          go_loopg [83] yn (fun k s83 wr => ∃ j : Nat, j + k = yn ∧ s83 = .int .i64 (j : Int) ∧ Keep (fun _ => True) wq wr)
          case atStart => exact ⟨0, by omega, rfl, Keep.refl _ _⟩
          case round =>
            obtain ⟨j, hjk, rfl, hin⟩ := hrel
            by_cases hlt : j < yn
            · have l1 : (j : Int) < (yn : Int) := by omega
              obtain ⟨bx, fx, rfl, _, cx⟩ := cells_blk H2.out.1 (by rw [ints_length, H2.out.2.2]; omega)
              obtain ⟨bz, fz, rfl, _, cz⟩ := cells_blk H2.out.2.1 (by rw [ints_length, H2.out.2.2]; omega)
              have hj : j < xs.length := by rw [H2.out.2.2]; exact hlt
              have d1 := (hin.cell (x := ⟨b1, f1 + i, none⟩) trivial).trans D.out.1
              have d2 := (hin.cell (x := ⟨b2, f2 + i, none⟩) trivial).trans D.out.2
              have d3 := (hin.cell (x := ⟨bx, fx + j, none⟩) trivial).trans ((cx j (by rw [ints_length]; exact hj)).trans (ints_get .i64 xs j hj))
              have d4 := (hin.cell (x := ⟨bz, fz + j, none⟩) trivial).trans ((cz j (by rw [ints_length]; exact hj)).trans (ints_get .i64 xs j hj))
              obtain ⟨y, hy⟩ : ∃ y : Nat, xs.getD j 0 = y := ⟨_, rfl⟩
              rw [hy] at d3 d4
              have HJ := hid (And.intro hin hjk)
              clear cx cz hin hjk hy hj hlt
              go_wp2_with fail
              go_quiet (fail)
              go_wp2_with fail
              have kq := HJ.out.1.drewN nq
              go_roundg (gk - 1)
              case measure => have := HJ.out.2; omega
              case rel => exact ⟨j + 1, by have := HJ.out.2; omega, by go_num, kq⟩
            · obtain rfl : yn = j := by omega
              have HJ := hid hin
              clear hin hjk hlt
              go_wp2_with fail
              go_roundg (gk0 - 1)
              case measure => have := HI.out.2; omega
              case rel => exact ⟨i + 1, by have := HI.out.2; omega, by go_num, HQ.out.trans (HJ.out.mono fun _ _ => trivial)⟩
        · obtain rfl : C = i := by omega
          have KL := hid (K3.out.trans (hin.mono fun b hb => Nat.lt_of_lt_of_le hb K3.out.size))
          clear hin hik hlt
          go_wp2_with fail
          refine (HR1.out _ KL.out).mono ?_
          rintro e w4 ⟨o4, rfl, r4, k4⟩
          have A4 := r4.at_ rcC_len
          obtain ⟨xa, xc, rfl⟩ := r4.form
          have K4 := hid (KL.out.trans (k4.mono fun b hb => Nat.lt_of_lt_of_le hb KL.out.size))
          have H4 := hid ((A4.lt rcC_ne).mono (q := fun b => b < w4.heap.size) (fun _ h => h.1))
          clear A4 r4 k4
          rw [List.length_map] at H4 ⊢
          go_wp2_with fail
          refine (HR2.out _ K4.out).mono ?_
          rintro e w5 ⟨o5, rfl, r5, k5⟩
          have A5 := r5.at_ rcC_len
          obtain ⟨ya, yc, rfl⟩ := r5.form
          have K5 := hid (K4.out.trans (k5.mono fun b hb => Nat.lt_of_lt_of_le hb K4.out.size))
          have H5 := hid (And.intro (H4.out.keep k5 (fun _ h => h)) A5)
          clear A5 r5 k5
          rw [List.length_map] at H5 ⊢
          obtain ⟨n4, hn4⟩ : ∃ n, (racesP zs l).length = n := ⟨_, rfl⟩
          obtain ⟨n5, hn5⟩ : ∃ n, (racesP zs (l.take C)).length = n := ⟨_, rfl⟩
          rw [hn4] at H5 ⊢
          rw [hn5] at H5 ⊢
          clear hn4 hn5
          go_wp2_with fail
          refine (within_walk _ _ _ _ w5 _ _ H5.out.2 H5.out.1 (races_within zs l C hC)).mono ?_
          rintro e w6 ⟨rfl, k6⟩
          have K6 := hid (K5.out.trans (k6.mono fun b hb => Nat.lt_of_lt_of_le hb K5.out.size))
          clear k6
          go_wp2_with fail
          go_ret
          exact ⟨rfl, K6.out⟩
end Go.Proofs.YtalihehmbiohlaaDoor
