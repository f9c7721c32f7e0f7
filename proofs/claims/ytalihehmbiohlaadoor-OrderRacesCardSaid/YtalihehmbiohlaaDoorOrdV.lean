/-
  Step by step: event of the watcher.
-/
import Derived.Test.YtalihehmbiohlaaDoorOrdVd
namespace Go.Proofs.YtalihehmbiohlaaDoor
open Go.RowKit Go.Maps Go.Proofs.Mem Go.Proofs.Txt Go.Proofs.Ord Go.Proofs.Mp

set_option maxRecDepth 100000 in
set_option maxHeartbeats 8000000 in
theorem event_walk (rooms : List Int) (B W : Nat) (rv : Value) (M1 M2 M3 n : Nat) (pb : Int → Nat) (w : World) (lab : Labs) (s : St) (e : Ev) (hw : Watch B W rv M1 M2 M3 n pb w lab s)
    (hr : Cells w (fun b => b < B) rv (rooms.map (Value.int .i64))) (hok : e.ok = true) (hwf : (Lit.int .i64 e.obj).wf = true) (hn : n ≤ 1000) (hle : s.All fun K => ∀ g, K g ≤ 1000) (hlp : ∀ c, (s.pp c).sent.length ≤ 1000 ∧ (s.pp c).got.length ≤ 1000 ∧ (s.pp c).frm.length ≤ 1000) (hrw : ∀ r ∈ rooms, r ≤ 9223372036854775807) :
    Calls Tryd.prog 29 #[.pointer (some ⟨W, 0, none⟩), .agg (evC e).toArray] w fun e' w' => ∃ v pb' lab', e' = .returned v ∧ Watch B W rv M1 M2 M3 (n + 2) pb' w' lab' (s.step rooms e) ∧ ClkAt w' lab' v (s.clock rooms e) ∧ Stay (fun l => l = .old) w lab w' lab' := by
  have HW := hid hw
  have HR := hid hr
  have HLE := hid hle
  have HOK := hid hok
  obtain ⟨g, kd, obj, at_⟩ := e
  have HKY := hid (key_ok hwf)
  have HWF := hid hwf
  have HLP := hid hlp
  have HRW := hid hrw
  clear hw hr hok hwf hle hlp hrw
  go_enter Tryd.func29, Tryd.ntmps29
  go_upto_region 1 with fail
  refine wp_world (fun w1 => Keep (· < w.heap.size) w w1 ∧ w1.heap[w.heap.size]? = some (.cells (evC ⟨g, kd, obj, at_⟩).toArray 25 (0, 0)) ∧ w.heap.size < w1.heap.size) ⟨(Keep.refl _ _).alloc _ (fun _ h => h), heap_alloc_new w _, by simp⟩ ?_
  rintro w1 ⟨k1, hE, zE⟩
  obtain ⟨E, hEE⟩ : ∃ E, E = w.heap.size := ⟨_, rfl⟩
  have HS1 := hid (Stay.fresh (fun _ => True) lab .misc k1)
  rw [← hEE] at hE zE HS1 ⊢
  obtain ⟨lab1, hlab1⟩ : ∃ lab1, lab1 = rel lab E .misc := ⟨_, rfl⟩
  have hlE : lab1 E = .misc := by rw [hlab1]; exact rel_same _ _ _
  rw [← hlab1] at HS1
  have HW1 := hid (HW.out.stay HS1.out (fun _ _ => trivial))
  have HE := hid (And.intro hE (And.intro zE hlE))
  have HOLD := hid (show ∀ b, b < B → b < w.heap.size ∧ lab b = .old from fun b hb => ⟨Nat.lt_of_lt_of_le hb HW.out.size, HW.out.old b hb⟩)
  have HK1 := hid (HS1.out.old_of trivial)
  obtain ⟨g1, g2⟩ : 0 ≤ g ∧ g < 8 := by have := HOK.out; simp [Ev.ok] at this; omega
  obtain ⟨gn, rfl⟩ : ∃ gn : Nat, g = (gn : Int) := ⟨g.toNat, by omega⟩
  have hgn : gn < 8 := by omega
  obtain ⟨oa, on, oc, co, hcl⟩ := HW1.out.own.slot gn hgn
  have HC0 := hid hcl
  have cg : w1.cell? ⟨E, 0, none⟩ = some (.int .i64 (gn : Int)) := cell_at hE 0
  have ck : w1.cell? ⟨E, 1, none⟩ = some (.int .i64 kd) := cell_at hE 1
  have cb : w1.cell? ⟨E, 2, none⟩ = some (.int .i64 obj) := cell_at hE 2
  clear k1 hE zE hEE hlab1 hlE hcl HW HS1
  go_quiet (fail)
  go_upto_region 2 with fail
  refine wp_world (fun w2 => Keep (fun _ => True) w1 w2) ((Keep.refl _ _).drewN _) ?_
  rintro w2 k2
  have HS2 := hid (show Stay (fun _ => True) w1 lab1 w2 lab1 from ⟨k2.mono fun _ _ => trivial, fun _ _ => rfl⟩)
  have HW2 := hid (HW1.out.stay HS2.out (fun _ _ => trivial))
  have HC2 := hid (HC0.out.stay HS2.out trivial)
  have HE2 := hid (And.intro ((k2.block E trivial).trans HE.out.1) (And.intro (Nat.lt_of_lt_of_le HE.out.2.1 k2.size) HE.out.2.2))
  have HK2 := hid (HK1.out.trans (HS2.out.old_of trivial))
  clear k2 cg ck cb co HC0 HE HK1 HW1 HS2
  go_upto_region 3 with fail
  have k3 : Keep (· < w2.heap.size) w2 (w2.alloc (.cells #[.slice none 0 0, .slice none 0 0, .slice none 0 0] 86)) := (Keep.refl _ _).alloc _ (fun _ h => h)
  refine wp_world (fun w3 => Keep (· < w2.heap.size) w2 w3 ∧ w2.heap.size < w3.heap.size) ⟨k3, by simp⟩ ?_
  rintro w3 ⟨k3, z3⟩
  obtain ⟨P, hP⟩ : ∃ P, P = w2.heap.size := ⟨_, rfl⟩
  have HS3 := hid (Stay.fresh (fun _ => True) lab1 .misc k3)
  rw [← hP] at HS3 ⊢
  obtain ⟨lab3, hlab3⟩ : ∃ lab3, lab3 = rel lab1 P .misc := ⟨_, rfl⟩
  rw [← hlab3] at HS3
  have HW3 := hid (HW2.out.stay HS3.out (fun _ _ => trivial))
  have HC3 := hid (HC2.out.stay HS3.out trivial)
  have HE3 := hid (And.intro ((k3.block E HE2.out.2.1).trans HE2.out.1) (And.intro (Nat.lt_of_lt_of_le HE2.out.2.1 k3.size) ((HS3.out.lab E HE2.out.2.1).trans HE2.out.2.2)))
  have HK3 := hid (HK2.out.trans (HS3.out.old_of trivial))
  clear k3 z3 hP hlab3 HS3 HW2 HC2 HE2 HK2
  have cg : w3.cell? ⟨E, 0, none⟩ = some (.int .i64 (gn : Int)) := cell_at HE3.out.1 0
  have ck : w3.cell? ⟨E, 1, none⟩ = some (.int .i64 kd) := cell_at HE3.out.1 1
  have cb : w3.cell? ⟨E, 2, none⟩ = some (.int .i64 obj) := cell_at HE3.out.1 2
  go_upto_block 0 with fail
  obtain ⟨sn, hsn⟩ : ∃ sn, s.seen rooms ⟨gn, kd, obj, at_⟩ = sn := ⟨_, rfl⟩
  have HSN := hid hsn
  clear hsn
  go_cut [5, 6] (fun s5 s6 wx => EvMid B W rv M1 M2 M3 n w lab E ⟨gn, kd, obj, at_⟩ s sn s5 s6 wx)
  case first =>
    by_cases h3 : kd = 3
    · subst h3
      obtain ⟨_, c9, _, _⟩ := HW3.out.own.cells
      obtain ⟨t, ht, hlt, htn, hcs⟩ := HW3.out.mut_
      have HT := hid ht
      obtain ⟨ma, mn, mc, hmx⟩ := (hcs obj).form
      have hq := hcs obj
      rw [hmx] at hq
      have HQ := hid hq
      have HMX := hid hmx
      clear ht hlt htn hcs hq hmx
      go_wp2_with fail
      refine wp_region_plan [true, true, true, true, true, true, true, false, false, false] (.free 0 (.free 1 (.free 2 (.free 3 (.free 4 (.free 5 (.free 6 (.one 7 (.one 8 (.last 9)))))))))) (fun wx => wx.cell? ⟨W, 9, none⟩ = some (.map (some M1)) ∧ wx.cell? ⟨E, 2, none⟩ = some (.int .i64 obj)) (by kernel_rfl) (by kernel_rfl) (⟨c9, cb⟩) ?_
      iterate 4 (refine plan_free rfl rfl (fun K hK => ?_); go_simp; refine hK _ ?_; clear hK K)
      refine plan_held (.map (some M1)) rfl rfl (fun w0 h0 => by obtain ⟨h1, h2⟩ := h0; go_simp) (fun K hK => ?_); refine hK _ ?_; clear hK K
      refine plan_free rfl rfl (fun K hK => ?_); go_simp; refine hK _ ?_; clear hK K
      refine plan_held (.int .i64 obj) rfl rfl (fun w0 h0 => by obtain ⟨h1, h2⟩ := h0; go_simp) (fun K hK => ?_); refine hK _ ?_; clear hK K
      refine plan_one rfl rfl (fun K hK => wp_ilook (.tmp 28) (.tmp 30) 70 32 rfl int_keys Tryd.underlying70 M1 t rfl (show IMap Tryd.prog 3 w3.drew M1 t from HT.out) obj rfl HKY.out _ (ints_zero _) ?_)
      rw [HMX.out]
      refine hK _ _ ⟨⟨c9, cb⟩, ?_⟩
      clear hK K
      refine plan_one rfl rfl (fun K hK => ?_); go_simp
      refine (join_clk _ _ _ _ w3.drew lab3 _ _ (show Cells w3.drew _ _ _ from HC3.out) (show Cells w3.drew _ _ _ from HQ.out)).mono ?_
      rintro e w4 ⟨ra, rn, rc, lab4, rfl, r1, r2, r3⟩
      have H4 := hid (And.intro r1 (And.intro r2 r3))
      refine hK _ _ ⟨⟨(r3.cell (x := ⟨W, 9, none⟩) HW3.out.own.lt).trans c9, (r3.cell (x := ⟨E, 2, none⟩) HE3.out.2.1).trans cb⟩, ?_⟩
      clear hK K r1 r2 r3
      refine plan_last rfl rfl (fun K hK => ?_); go_simp
      refine hK _ _ ?_
      clear hK K
      go_wp2_with fail
      go_meet
      case rel =>
        have st := (Stay.drew (fun _ => True) w3 lab3).trans H4.out.2.1
        exact evmid_plain rfl (by simp) HW3.out HE3.out HK3.out st (by rw [← HSN.out, seen_lock]; exact H4.out.1)
    by_cases hA : kd = 7 ∨ kd = 8 ∨ kd = 9
    ·
      rcases hA with rfl | rfl | rfl
      all_goals
        obtain ⟨_, _, c9, _⟩ := HW3.out.own.cells
        obtain ⟨t, ht, hlt, htn, hcs⟩ := HW3.out.atm
        have HT := hid ht
        obtain ⟨ma, mn, mc, hmx⟩ := (hcs obj).form
        have hq := hcs obj
        rw [hmx] at hq
        have HQ := hid hq
        have HMX := hid hmx
        clear ht hlt htn hcs hq hmx
        go_wp2_with fail
        refine wp_region_plan [true, true, true, true, true, true, true, false, false, false] (.free 0 (.free 1 (.free 2 (.free 3 (.free 4 (.free 5 (.free 6 (.one 7 (.one 8 (.last 9)))))))))) (fun wx => wx.cell? ⟨W, 10, none⟩ = some (.map (some M2)) ∧ wx.cell? ⟨E, 2, none⟩ = some (.int .i64 obj)) (by kernel_rfl) (by kernel_rfl) (⟨c9, cb⟩) ?_
        iterate 4 (refine plan_free rfl rfl (fun K hK => ?_); go_simp; refine hK _ ?_; clear hK K)
        refine plan_held (.map (some M2)) rfl rfl (fun w0 h0 => by obtain ⟨h1, h2⟩ := h0; go_simp) (fun K hK => ?_); refine hK _ ?_; clear hK K
        refine plan_free rfl rfl (fun K hK => ?_); go_simp; refine hK _ ?_; clear hK K
        refine plan_held (.int .i64 obj) rfl rfl (fun w0 h0 => by obtain ⟨h1, h2⟩ := h0; go_simp) (fun K hK => ?_); refine hK _ ?_; clear hK K
        refine plan_one rfl rfl (fun K hK => wp_ilook (.tmp 41) (.tmp 43) 70 32 rfl int_keys Tryd.underlying70 M2 t rfl (show IMap Tryd.prog 3 w3.drew M2 t from HT.out) obj rfl HKY.out _ (ints_zero _) ?_)
        rw [HMX.out]
        refine hK _ _ ⟨⟨c9, cb⟩, ?_⟩
        clear hK K
        refine plan_one rfl rfl (fun K hK => ?_); go_simp
        refine (join_clk _ _ _ _ w3.drew lab3 _ _ (show Cells w3.drew _ _ _ from HC3.out) (show Cells w3.drew _ _ _ from HQ.out)).mono ?_
        rintro e w4 ⟨ra, rn, rc, lab4, rfl, r1, r2, r3⟩
        have H4 := hid (And.intro r1 (And.intro r2 r3))
        refine hK _ _ ⟨⟨(r3.cell (x := ⟨W, 10, none⟩) HW3.out.own.lt).trans c9, (r3.cell (x := ⟨E, 2, none⟩) HE3.out.2.1).trans cb⟩, ?_⟩
        clear hK K r1 r2 r3
        refine plan_last rfl rfl (fun K hK => ?_); go_simp
        refine hK _ _ ?_
        clear hK K
        go_wp2_with fail
        go_meet
        case rel =>
          have st := (Stay.drew (fun _ => True) w3 lab3).trans H4.out.2.1
          exact evmid_plain rfl (by simp) HW3.out HE3.out HK3.out st (by rw [← HSN.out]; first | (rw [seen_atom rooms s (gn : Int) obj at_ (k := 7) (by simp)]; exact H4.out.1) | (rw [seen_atom rooms s (gn : Int) obj at_ (k := 8) (by simp)]; exact H4.out.1) | (rw [seen_atom rooms s (gn : Int) obj at_ (k := 9) (by simp)]; exact H4.out.1))
    by_cases h5 : kd = 5
    · subst h5
      go_wp2_with fail
      refine (pipe_walk B W rv M1 M2 M3 n pb w3 lab3 s obj HW3.out HWF.out (by omega)).mono ?_
      rintro e w4 ⟨pb4, lab4, rfl, hw4, st4⟩
      have hpa := hw4.pipe_at (c := obj) (p := s.pp obj) (by simp [updI])
      obtain ⟨b, hb⟩ : ∃ b, pb4 obj = b := ⟨_, rfl⟩
      rw [hb] at hpa ⊢
      have HB := hid hb
      obtain ⟨p, hp⟩ : ∃ p, s.pp obj = p := ⟨_, rfl⟩
      have HLL := HLP.out obj
      rw [hp] at hpa HLL
      have HP := hid hp
      obtain ⟨l1, l2, l3⟩ := HLL
      obtain ⟨sa, sc, ga, gc, fa, fc, hPb, hPl, rS, rG, rF, oF, lF⟩ := hpa.open_
      have p0 : w4.cell? ⟨b, 0, none⟩ = some (.slice sa p.sent.length sc) := cell_at hPb 0
      have p1 : w4.cell? ⟨b, 1, none⟩ = some (.slice ga p.got.length gc) := cell_at hPb 1
      have HRS := hid rS
      have HRG := hid rG
      have hbl : b < w4.heap.size := hpa.lt
      have HW4 := hid hw4
      have he4 := st4.keep.block E ⟨HE3.out.2.1, by rw [HE3.out.2.2]; simp⟩
      have HE4 := hid (And.intro (he4.trans HE3.out.1) (And.intro (Nat.lt_of_lt_of_le HE3.out.2.1 st4.keep.size) ((st4.lab E HE3.out.2.1).trans HE3.out.2.2)))
      have cb4 : w4.cell? ⟨E, 2, none⟩ = some (.int .i64 obj) := cell_at HE4.out.1 2
      have HC4 := hid (HC3.out.stay st4 (by simp))
      have HK4 := hid (HK3.out.trans (st4.old_of (by simp)))
      have c0 := HW4.out.own.cells.1
      have HPL := hid (And.intro hPb hPl)
      obtain ⟨A, hA⟩ : ∃ A, p.sent.length = A := ⟨_, rfl⟩
      obtain ⟨G, hG⟩ : ∃ G, p.got.length = G := ⟨_, rfl⟩
      rw [hA] at p0 l1 HRS
      rw [hG] at p1 l2 HRG
      have HAG := hid (And.intro hA hG)
      have HR4 := hid (HR.out.keep HK4.out.keep HOLD.out)
      clear hpa hb hp hPb hPl rS rG rF oF lF st4 hw4 he4 hA hG cg ck cb HW3 HC3 HE3 HK3 l3
      obtain ⟨R, hR⟩ : ∃ R, roomOf rooms obj = R := ⟨_, rfl⟩
      have HRR := hid hR
      have hR9 : R ≤ 9223372036854775807 := by rw [← hR]; exact room_le HRW.out obj
      obtain ⟨z, hz⟩ : ∃ z : Int, (A : Int) - (R : Int) = z := ⟨_, rfl⟩
      have HZ := hid hz
      have hz1 : -9223372036854775808 ≤ z := by have := l1; omega
      have hz2 : z ≤ 9223372036854775807 := by have := l1; omega
      clear hR hz
      go_wp2_with fail
      refine wp_region_plan [true, true, true, true, true, true, true, true, false, true, false] (.free 0 (.free 1 (.free 2 (.free 3 (.free 4 (.free 5 (.free 6 (.free 7 (.one 8 (.free 9 (.last 10))))))))))) (fun wx => wx.cell? ⟨b, 0, none⟩ = some (.slice sa A sc) ∧ wx.cell? ⟨E, 2, none⟩ = some (.int .i64 obj)) (by kernel_rfl) (by kernel_rfl) (⟨p0, cb4⟩) ?_
      iterate 3 (refine plan_free rfl rfl (fun K hK => ?_); go_simp; refine hK _ ?_; clear hK K)
      refine plan_held (.slice sa A sc) rfl rfl (fun w0 h0 => by obtain ⟨h1, h2⟩ := h0; go_simp) (fun K hK => ?_); refine hK _ ?_; clear hK K
      iterate 3 (refine plan_free rfl rfl (fun K hK => ?_); go_simp; refine hK _ ?_; clear hK K)
      refine plan_held (.int .i64 obj) rfl rfl (fun w0 h0 => by obtain ⟨h1, h2⟩ := h0; go_simp) (fun K hK => ?_); refine hK _ ?_; clear hK K
      refine plan_one rfl rfl (fun K hK => ?_); go_simp
      refine (room_walk rooms rv W obj w4.drew _ (show Cells w4.drew _ _ _ from HR4.out) (show w4.drew.cell? _ = _ from c0)).mono ?_
      rw [HRR.out]
      rintro e w5 ⟨rfl, k5⟩
      have k45 := ((Keep.refl (fun _ => True) w4).drew).trans k5
      have HK45 := hid k45
      refine hK _ _ ⟨⟨(k45.cell (x := ⟨b, 0, none⟩) trivial).trans p0, (k45.cell (x := ⟨E, 2, none⟩) trivial).trans cb4⟩, ?_⟩
      clear hK K k5 k45
      refine plan_free rfl rfl (fun K hK => ?_); go_simp; refine hK _ ?_; clear hK K
      rw [HZ.out]
      refine plan_last rfl rfl (fun K hK => ?_); go_simp
      refine hK _ _ ?_
      clear hK K
      have hcase : R = 0 ∨ (0 < R ∧ z < 0) ∨ (0 < R ∧ 0 ≤ z ∧ (G : Int) ≤ z) ∨ (0 < R ∧ 0 ≤ z ∧ z < (G : Int)) := by omega
      have cb5 := (HK45.out.cell (x := ⟨E, 2, none⟩) trivial).trans cb4
      have p15 := (HK45.out.cell (x := ⟨b, 1, none⟩) trivial).trans p1
      have c05 := (HK45.out.cell (x := ⟨W, 0, none⟩) trivial).trans c0
      clear cb4 p0 p1 c0
      rcases hcase with rfl | ⟨h1, h2⟩ | ⟨h1, h2, h3⟩ | ⟨h1, h2, h3⟩
      · have HN := hid (seen_send0 rooms s (gn : Int) obj at_ (by rw [HRR.out]; omega))
        go_wp2_with fail
        refine (room_walk rooms rv W obj w5 _ (HR4.out.keep HK45.out (fun _ _ => trivial)) (show w5.cell? _ = _ from c05)).mono ?_
        rw [HRR.out]
        rintro e w6 ⟨rfl, k6⟩
        have HK46 := hid (HK45.out.trans k6)
        have p16 := (k6.cell (x := ⟨b, 1, none⟩) trivial).trans p15
        clear k6 p15 cb5 c05
        go_wp2_with fail
        go_meet
        case rel => exact evmid_pipe rfl (.inl rfl) HW4.out HE4.out HK4.out (Stay.of_all lab4 HK46.out) HB.out (by rw [← HSN.out, HN.out]; exact HC4.out.stay (Stay.of_all (S := fun _ => True) lab4 HK46.out) trivial)
      · have HN := hid (seen_send0 rooms s (gn : Int) obj at_ (by rw [HRR.out, HP.out, HAG.out.1]; have := HZ.out; omega))
        have d1 : decide ((0 : Int) < (R : Int)) = true := by simp; omega
        have e1 : decide (0 < R) = true := by simp; omega
        have d2 : decide ((0 : Int) ≤ z) = false := by simp; omega
        go_wp2_with fail
        refine (room_walk rooms rv W obj w5 _ (HR4.out.keep HK45.out (fun _ _ => trivial)) (show w5.cell? _ = _ from c05)).mono ?_
        rw [HRR.out]
        rintro e w6 ⟨rfl, k6⟩
        have HK46 := hid (HK45.out.trans k6)
        have p16 := (k6.cell (x := ⟨b, 1, none⟩) trivial).trans p15
        clear k6 p15 cb5 c05
        go_wp2_with fail
        go_meet
        case rel => exact evmid_pipe rfl (.inl rfl) HW4.out HE4.out HK4.out (Stay.of_all lab4 HK46.out) HB.out (by rw [← HSN.out, HN.out]; exact HC4.out.stay (Stay.of_all (S := fun _ => True) lab4 HK46.out) trivial)
      · have HN := hid (seen_send0 rooms s (gn : Int) obj at_ (by rw [HRR.out, HP.out, HAG.out.1, HAG.out.2]; have := HZ.out; omega))
        have d1 : decide ((0 : Int) < (R : Int)) = true := by simp; omega
        have e1 : decide (0 < R) = true := by simp; omega
        have d2 : decide ((0 : Int) ≤ z) = true := by simp; omega
        have d3 : decide (z < (G : Int)) = false := by simp; omega
        go_wp2_with fail
        refine (room_walk rooms rv W obj w5 _ (HR4.out.keep HK45.out (fun _ _ => trivial)) (show w5.cell? _ = _ from c05)).mono ?_
        rw [HRR.out]
        rintro e w6 ⟨rfl, k6⟩
        have HK46 := hid (HK45.out.trans k6)
        have p16 := (k6.cell (x := ⟨b, 1, none⟩) trivial).trans p15
        clear k6 p15 cb5 c05
        go_wp2_with fail
        go_meet
        case rel => exact evmid_pipe rfl (.inl rfl) HW4.out HE4.out HK4.out (Stay.of_all lab4 HK46.out) HB.out (by rw [← HSN.out, HN.out]; exact HC4.out.stay (Stay.of_all (S := fun _ => True) lab4 HK46.out) trivial)
      · obtain ⟨k, rfl⟩ : ∃ k : Nat, z = (k : Int) := ⟨z.toNat, by omega⟩
        have HN := hid (seen_send rooms s (gn : Int) obj at_ (by rw [HRR.out, HP.out, HAG.out.1, HAG.out.2]; have := HZ.out; omega))
        have d1 : decide ((0 : Int) < (R : Int)) = true := by simp; omega
        have e1 : decide (0 < R) = true := by simp; omega
        have d3 : decide ((k : Int) < (G : Int)) = true := by simp; omega
        have e3 : decide (k < G) = true := by simp; omega
        have hkG : k < G := by omega
        go_wp2_with fail
        refine (room_walk rooms rv W obj w5 _ (HR4.out.keep HK45.out (fun _ _ => trivial)) (show w5.cell? _ = _ from c05)).mono ?_
        rw [HRR.out]
        rintro e w6 ⟨rfl, k6⟩
        have HK46 := hid (HK45.out.trans k6)
        have p16 := (k6.cell (x := ⟨b, 1, none⟩) trivial).trans p15
        clear k6 p15 cb5 c05
        have HRG6 := HRG.out.stay (Stay.of_all (S := fun _ => True) lab4 HK46.out) trivial trivial
        obtain ⟨gb, xa, xn, xc, rfl, hGc, hcm, hcx, hcl⟩ := HRG6.at_ k (by rw [HAG.out.2]; exact hkG)
        have HX := hid hcl
        clear HRG6 hcl
        go_wp2_with fail
        refine (join_clk _ _ _ _ w6 lab4 _ _ (HC4.out.stay (Stay.of_all (S := fun _ => True) lab4 HK46.out) trivial) HX.out).mono ?_
        rintro e w7 ⟨ra, rn, rc, lab7, rfl, r1, r2, r3⟩
        have H7 := hid (And.intro r1 (And.intro r2 r3))
        clear r1 r2 r3
        go_wp2_with fail
        go_meet
        case rel =>
          have st := (Stay.of_all (S := fun _ => True) lab4 HK46.out).trans H7.out.2.1
          exact evmid_pipe rfl (.inl rfl) HW4.out HE4.out HK4.out st HB.out (by rw [← HSN.out, HN.out, HP.out, HRR.out, HAG.out.1, show A - R = k by have := HZ.out; omega]; exact H7.out.1)
    by_cases h6 : kd = 6
    · subst h6
      go_wp2_with fail
      refine (pipe_walk B W rv M1 M2 M3 n pb w3 lab3 s obj HW3.out HWF.out (by omega)).mono ?_
      rintro e w4 ⟨pb4, lab4, rfl, hw4, st4⟩
      have hpa := hw4.pipe_at (c := obj) (p := s.pp obj) (by simp [updI])
      obtain ⟨b, hb⟩ : ∃ b, pb4 obj = b := ⟨_, rfl⟩
      rw [hb] at hpa ⊢
      have HB := hid hb
      obtain ⟨p, hp⟩ : ∃ p, s.pp obj = p := ⟨_, rfl⟩
      have HLL := HLP.out obj
      rw [hp] at hpa HLL
      have HP := hid hp
      obtain ⟨l1, l2, l3⟩ := HLL
      obtain ⟨sa, sc, ga, gc, fa, fc, hPb, hPl, rS, rG, rF, oF, lF⟩ := hpa.open_
      have p0 : w4.cell? ⟨b, 0, none⟩ = some (.slice sa p.sent.length sc) := cell_at hPb 0
      have p1 : w4.cell? ⟨b, 1, none⟩ = some (.slice ga p.got.length gc) := cell_at hPb 1
      have HRS := hid rS
      have HRG := hid rG
      have hbl : b < w4.heap.size := hpa.lt
      have HW4 := hid hw4
      have he4 := st4.keep.block E ⟨HE3.out.2.1, by rw [HE3.out.2.2]; simp⟩
      have HE4 := hid (And.intro (he4.trans HE3.out.1) (And.intro (Nat.lt_of_lt_of_le HE3.out.2.1 st4.keep.size) ((st4.lab E HE3.out.2.1).trans HE3.out.2.2)))
      have cb4 : w4.cell? ⟨E, 2, none⟩ = some (.int .i64 obj) := cell_at HE4.out.1 2
      have HC4 := hid (HC3.out.stay st4 (by simp))
      have HK4 := hid (HK3.out.trans (st4.old_of (by simp)))
      have c0 := HW4.out.own.cells.1
      have HPL := hid (And.intro hPb hPl)
      obtain ⟨A, hA⟩ : ∃ A, p.sent.length = A := ⟨_, rfl⟩
      obtain ⟨G, hG⟩ : ∃ G, p.got.length = G := ⟨_, rfl⟩
      rw [hA] at p0 l1 HRS
      rw [hG] at p1 l2 HRG
      have HAG := hid (And.intro hA hG)
      have HR4 := hid (HR.out.keep HK4.out.keep HOLD.out)
      clear hpa hb hp hPb hPl rS rG rF oF lF st4 hw4 he4 hA hG cg ck cb HW3 HC3 HE3 HK3 l3
      by_cases hGA : G < A
      · have hGA2 : (G : Int) < (A : Int) := by omega
        have HN := hid (seen_recv rooms s (gn : Int) obj at_ (by rw [HP.out, HAG.out.1, HAG.out.2]; exact hGA))
        obtain ⟨gb, xa, xn, xc, rfl, hGc, hcm, hcx, hcl⟩ := HRS.out.at_ G (by rw [HAG.out.1]; exact hGA)
        have HX := hid hcl
        clear hcl
        go_wp2_with fail
        refine (join_clk _ _ _ _ w4 lab4 _ _ HC4.out HX.out).mono ?_
        rintro e w7 ⟨ra, rn, rc, lab7, rfl, r1, r2, r3⟩
        have H7 := hid (And.intro r1 (And.intro r2 r3))
        clear r1 r2 r3
        go_wp2_with fail
        go_meet
        case rel =>
          exact evmid_pipe rfl (.inr rfl) HW4.out HE4.out HK4.out H7.out.2.1 HB.out (by rw [← HSN.out, HN.out, HP.out, HAG.out.2]; exact H7.out.1)
      · have hGA2 : ¬ (G : Int) < (A : Int) := by omega
        have HN := hid (seen_recv0 rooms s (gn : Int) obj at_ (by rw [HP.out, HAG.out.1, HAG.out.2]; exact hGA))
        go_wp2_with fail
        go_meet
        case rel => exact evmid_pipe rfl (.inr rfl) HW4.out HE4.out HK4.out (Stay.refl (fun _ => True) w4 lab4) HB.out (by rw [← HSN.out, HN.out]; exact HC4.out)
    have q3 : (kd == 3) = false := by simp [h3]
    have q5 : (kd == 5) = false := by simp [h5]
    have q6 : (kd == 6) = false := by simp [h6]
    have q7 : (kd == 7) = false := by simp; omega
    have q8 : (kd == 8) = false := by simp; omega
    have q9 : (kd == 9) = false := by simp; omega
    have HN := hid (seen_other rooms s (gn : Int) obj at_ (k := kd) (by omega))
    have HNO := hid (show ¬ (kd = 5 ∨ kd = 6) by omega)
    clear h3 hA h5 h6
    go_wp2_with fail
    go_meet
    case rel => exact evmid_plain rfl HNO.out HW3.out HE3.out HK3.out (Stay.refl (fun _ => True) w3 lab3) (by rw [← HSN.out, HN.out]; exact HC3.out)
  case rest =>
    rename_i Ka
    refine Ka _ _ ?_
    exact event_rest hgn hcut hn HOK.out HWF.out HSN.out HLE.out HLP.out HR.out HOLD.out
end Go.Proofs.YtalihehmbiohlaaDoor
