/-
  Step by step: writes, ahead, Before of package order.
-/
import Derived.Test.YtalihehmbiohlaaDoorOrdG
import Derived.Test.YtalihehmbiohlaaDoorOrdK
namespace Go.Proofs.YtalihehmbiohlaaDoor
open Go.RowKit Go.Maps Go.Proofs.Mem Go.Proofs.Txt Go.Proofs.Ord Go.Proofs.Mp

/-- an access's cells: the event, its number. -/
def acC (e : Ev) (k : Nat) : List Value := [.int .i64 e.g, .int .i64 e.kd, .int .i64 e.obj, .int .i64 e.at_, .int .i64 (k : Int)]
theorem ac_size (e : Ev) (k : Nat) : (Tryd.prog.info? 60).map (·.size) = some (acC e k).length := by
  have h : (Tryd.prog.info? 60).map (·.size) = some 5 := by kernel_rfl
  exact h
set_option maxRecDepth 100000 in
theorem writes_walk (e : Ev) (k : Nat) (w : World) : Calls Tryd.prog 23 #[.agg (acC e k).toArray] w fun r w' => r = .returned (.bool e.wr) ∧ Keep (· < w.heap.size) w w' := by
  obtain ⟨b, hb⟩ : ∃ b, e.wr = b := ⟨_, rfl⟩
  rw [hb]
  have HB := hid (show (e.kd == 2) = b from hb)
  clear hb
  go_enter Tryd.func23, Tryd.ntmps23
  go_upto_region 1 with fail
  refine wp_world (fun w1 => Keep (· < w.heap.size) w w1 ∧ w1.heap[w.heap.size]? = some (.cells (acC e k).toArray 60 (0, 0))) ⟨(Keep.refl _ _).alloc _ (fun _ h => h), heap_alloc_new w _⟩ ?_
  rintro w1 ⟨k1, h1⟩
  obtain ⟨O, hO⟩ : ∃ O, O = w.heap.size := ⟨_, rfl⟩
  rw [← hO] at h1 ⊢
  have c1 : w1.cell? ⟨O, 1, none⟩ = some (.int .i64 e.kd) := cell_at h1 1
  have K1 := hid k1
  clear k1 h1 hO
  have e2 := HB.out
  go_wp2_with fail
  go_ret
  exact ⟨rfl, K1.out⟩

set_option maxRecDepth 100000 in
set_option maxHeartbeats 2000000 in
theorem ahead_walk (l : List Ev) (C : Nat → Nat → Nat) (tv cv : Value) (w : World) (p q : Nat → Prop) (hv : EvsAt w p tv l) (hc : ClksAt w q cv l.length C) (a b : Nat) (ha : a < l.length) (hb : b < l.length) (hg0 : 0 ≤ (evAt l a).g) (hg1 : (evAt l a).g < 8) :
    Calls Tryd.prog 24 #[tv, cv, .int .i64 (a : Int), .int .i64 (b : Int)] w fun e w' => e = .returned (.bool (decide (C a (evAt l a).g.toNat ≤ C b (evAt l a).g.toNat))) ∧ Keep (fun _ => True) w w' := by
  obtain ⟨va, vc, rfl, hl1, hl2⟩ := hv.form
  obtain ⟨ca, cc, rfl, hl3, hl4⟩ := hc.form
  obtain ⟨blk, off, rfl, _, hrg⟩ := hv.get a ha
  rw [evAt_get l a ha] at hg0 hg1 ⊢
  obtain ⟨x, hx⟩ : ∃ x, l[a] = x := ⟨_, rfl⟩
  rw [hx] at hrg hg0 hg1 ⊢
  obtain ⟨g, hg⟩ : ∃ g : Nat, x.g = (g : Int) := ⟨x.g.toNat, by omega⟩
  have hg8 : g < 8 := by omega
  have hgt : x.g.toNat = g := by omega
  have hcg : w.cell? ⟨blk, off + a * 4, none⟩ = some (.int .i64 (g : Int)) := by rw [← hg]; exact hrg 0 _ rfl
  obtain ⟨blk2, off2, xa, xn, xc, rfl, _, hca, hka⟩ := hc.get a ha
  obtain ⟨blk3, off3, ya, yn, yc, e3, _, hcb, hkb⟩ := hc.get b hb
  injection e3 with e3
  injection e3 with e31 e32
  subst e31 e32
  have HA := hid hka
  have HB := hid hkb
  rw [hgt]
  obtain ⟨m1, hm1⟩ : ∃ m, C a g = m := ⟨_, rfl⟩
  obtain ⟨m2, hm2⟩ : ∃ m, C b g = m := ⟨_, rfl⟩
  have HM := hid (And.intro hm1 hm2)
  rw [hm1, hm2]
  have la : (a : Int) < (l.length : Int) := by omega
  have lb : (b : Int) < (l.length : Int) := by omega
  clear hv hc hrg hx hg hgt hka hkb hg0 hg1 hm1 hm2
  go_enter Tryd.func24, Tryd.ntmps24
  go_wp2_with fail
  refine wp_region_plan [true, true, true, true, true, false, true, true, true, true, true, false, true, false] (.free 0 (.free 1 (.free 2 (.free 3 (.free 4 (.free 6 (.free 7 (.free 8 (.free 9 (.free 10 (.one 5 (.one 11 (.free 12 (.last 13)))))))))))))) (fun wx => wx.cell? ⟨blk2, off2 + a, none⟩ = some (.slice xa xn xc) ∧ wx.cell? ⟨blk2, off2 + b, none⟩ = some (.slice ya yn yc)) (by kernel_rfl) (by kernel_rfl) (⟨hca, hcb⟩) ?_
  iterate 3 (refine plan_free rfl rfl (fun K hK => ?_); go_simp; refine hK _ ?_; clear hK K)
  refine plan_held (.slice xa xn xc) rfl rfl (fun w0 h0 => by obtain ⟨h1, h2⟩ := h0; go_simp) (fun K hK => ?_); refine hK _ ?_; clear hK K
  iterate 4 (refine plan_free rfl rfl (fun K hK => ?_); go_simp; refine hK _ ?_; clear hK K)
  refine plan_held (.slice ya yn yc) rfl rfl (fun w0 h0 => by obtain ⟨h1, h2⟩ := h0; go_simp) (fun K hK => ?_); refine hK _ ?_; clear hK K
  refine plan_free rfl rfl (fun K hK => ?_); go_simp; refine hK _ ?_; clear hK K
  refine plan_one rfl rfl (fun K hK => ?_); go_simp
  refine (get_nat _ _ g w.drew _ (show Cells w.drew _ _ _ from HA.out)).mono ?_
  rw [short_get _ _ hg8]
  rintro e w1 ⟨rfl, k1⟩
  have k1 := ((Keep.refl (fun _ => True) w).drew).trans k1
  refine hK _ _ ⟨⟨(k1.cell (x := ⟨blk2, off2 + a, none⟩) trivial).trans hca, (k1.cell (x := ⟨blk2, off2 + b, none⟩) trivial).trans hcb⟩, ?_⟩
  clear hK K
  have K1 := hid k1
  clear k1
  refine plan_one rfl rfl (fun K hK => ?_); go_simp
  refine (get_nat _ _ g w1 _ (HB.out.keep K1.out (fun _ _ => trivial))).mono ?_
  rw [short_get _ _ hg8]
  rintro e w2 ⟨rfl, k2⟩
  have k2 := K1.out.trans k2
  refine hK _ _ ⟨⟨(k2.cell (x := ⟨blk2, off2 + a, none⟩) trivial).trans hca, (k2.cell (x := ⟨blk2, off2 + b, none⟩) trivial).trans hcb⟩, ?_⟩
  clear hK K
  have K2 := hid k2
  clear k2
  refine plan_free rfl rfl (fun K hK => ?_); go_simp; refine hK _ ?_; clear hK K
  refine plan_last rfl rfl (fun K hK => ?_); go_simp
  refine hK _ _ ?_
  clear hK K
  go_wp2_with fail
  go_ret
  exact ⟨by rw [← HM.out.1, ← HM.out.2]; rfl, K2.out⟩

theorem aheadB_eq (rooms : List Int) (l : List Ev) (a b : Nat) : decide (clockAt rooms l a (evAt l a).g.toNat ≤ clockAt rooms l b (evAt l a).g.toNat) = aheadB rooms l a b := rfl

set_option maxRecDepth 100000 in
theorem before_bad (l : List Ev) (v rv ev : Value) (a b : Int) (w : World) (p : Nat → Prop) (hv : EvsAt w p v l) (he : w.cell? ⟨0, 0, none⟩ = some ev) (hl : 0 < w.heap.size) (hno : l.all Ev.ok = false) (hev : ∃ t a, ev = .iface t a) :
    Calls Tryd.prog 14 #[v, rv, .int .i64 a, .int .i64 b] w fun e w' => e = .returned (.tuple #[.bool false, ev]) ∧ Keep (· < w.heap.size) w w' := by
  have HC := hid (clocks_bad l v rv ev w p hv he hl hno hev)
  clear hv he hl hno
  obtain ⟨t, i, rfl⟩ := hev
  go_enter Tryd.func14, Tryd.ntmps14
  go_wp2_with fail
  refine HC.out.mono ?_
  rintro e w1 ⟨rfl, k1⟩
  have K1 := hid k1
  clear k1
  go_wp2_with fail
  go_ret2
  exact ⟨rfl, K1.out⟩

set_option maxRecDepth 100000 in
set_option maxHeartbeats 4000000 in
theorem before_walk (rooms : List Int) (l : List Ev) (v rv ev : Value) (a b : Int) (w : World) (p q : Nat → Prop) (hv : EvsAt w p v l) (hr : Cells w q rv (rooms.map (Value.int .i64))) (he : w.cell? ⟨0, 0, none⟩ = some ev) (hl : 0 < w.heap.size)
    (hok : l.all Ev.ok = true) (hwf : ∀ e ∈ l, (Lit.int .i64 e.obj).wf = true) (hlen : l.length ≤ 200) (hrw : ∀ r ∈ rooms, r ≤ 9223372036854775807) (hev : ∃ t a, ev = .iface t a) :
    Calls Tryd.prog 14 #[v, rv, .int .i64 a, .int .i64 b] w fun e w' => e = .returned (if 0 ≤ a ∧ 0 ≤ b ∧ a < l.length ∧ b < l.length then .tuple #[.bool (decide (a < b) && aheadB rooms l a.toNat b.toNat), .nilIface] else .tuple #[.bool false, ev]) ∧ Keep (· < w.heap.size) w w' := by
  have HC := hid (clocks_good rooms l v rv ev w p q hv hr he hl hok hwf hlen hrw)
  have HV := hid (hv.lt.mono (q := fun b => b < w.heap.size) (fun _ h => h.1))
  obtain ⟨va, vc, rfl, hc1, hc2⟩ := hv.form
  have HE := hid (And.intro he hl)
  have HOK := hid (List.all_eq_true.1 hok)
  clear hv hr he hl hok hwf hrw hlen
  obtain ⟨t, ei, rfl⟩ := hev
  obtain ⟨res, hres⟩ : ∃ r, (if 0 ≤ a ∧ 0 ≤ b ∧ a < l.length ∧ b < l.length then Value.tuple #[.bool (decide (a < b) && aheadB rooms l a.toNat b.toNat), .nilIface] else .tuple #[.bool false, .iface t ei]) = r := ⟨_, rfl⟩
  rw [hres]
  have HRES := hid hres
  clear hres
  go_enter Tryd.func14, Tryd.ntmps14
  go_wp2_with fail
  refine HC.out.mono ?_
  rintro e w1 ⟨out, rfl, hcl, k1⟩
  have HCL := hid hcl
  have K1 := hid k1
  obtain ⟨oa, oc, rfl, _, _⟩ := hcl.form
  have ce : w1.cell? ⟨0, 0, none⟩ = some (.iface t ei) := (k1.cell (x := ⟨0, 0, none⟩) HE.out.2).trans HE.out.1
  clear hcl k1
  by_cases h : 0 ≤ a ∧ 0 ≤ b ∧ a < l.length ∧ b < l.length
  · have HRES2 := HRES.out
    rw [if_pos h] at HRES2
    obtain ⟨a1, b1, a2, b2⟩ := h
    obtain ⟨m, rfl⟩ : ∃ m : Nat, a = (m : Int) := ⟨a.toNat, by omega⟩
    obtain ⟨n, rfl⟩ : ∃ n : Nat, b = (n : Int) := ⟨b.toNat, by omega⟩
    have h1 : decide ((m : Int) < 0) = false := by simp
    have h2 : decide ((n : Int) < 0) = false := by simp
    have h3 : decide ((l.length : Int) ≤ (m : Int)) = false := by simp; omega
    have h4 : decide ((l.length : Int) ≤ (n : Int)) = false := by simp; omega
    have h5 : decide (l.length ≤ m) = false := by simp; omega
    have h6 : decide (l.length ≤ n) = false := by simp; omega
    have hm : m < l.length := by omega
    have hn : n < l.length := by omega
    have hg := HOK.out _ (List.getElem_mem (l := l) (n := m) hm)
    have HG : 0 ≤ (evAt l m).g ∧ (evAt l m).g < 8 := by rw [evAt_get l m hm]; simp [Ev.ok] at hg; omega
    have HGG := hid HG
    rw [show (m : Int).toNat = m from rfl, show (n : Int).toNat = n from rfl] at HRES2
    clear hg HG HRES a1 b1 a2 b2
    by_cases hmn : m < n
    · have h7 : decide ((m : Int) < (n : Int)) = true := by simp; omega
      have h8 : decide (m < n) = true := by simp; omega
      have h9 : ((m : Int) < (n : Int)) := by omega
      rw [h7, Bool.true_and] at HRES2
      have HAH := hid (ahead_walk l (clockAt rooms l) (.slice va l.length vc) (.slice oa l.length oc) w1 _ _ (HV.out.keep K1.out (fun _ h => h)) HCL.out m n hm hn HGG.out.1 HGG.out.2)
      obtain ⟨r, hr⟩ : ∃ r, aheadB rooms l m n = r := ⟨_, rfl⟩
      rw [aheadB_eq, hr] at HAH
      rw [hr] at HRES2
      have HRR := hid HRES2
      clear hr hm hn HRES2
      go_wp2_with fail
      refine HAH.out.mono ?_
      rintro e w2 ⟨rfl, k2⟩
      have K2 := hid k2
      clear k2
      go_wp2_with fail
      go_ret2
      exact ⟨by rw [← HRR.out]; rfl, K1.out.trans (K2.out.mono fun _ _ => trivial)⟩
    · have h7 : decide ((m : Int) < (n : Int)) = false := by simp; omega
      have h8 : decide (m < n) = false := by simp; omega
      rw [h7, Bool.false_and] at HRES2
      have HRR := hid HRES2
      clear hm hn HRES2
      go_wp2_with fail
      go_ret2
      exact ⟨by rw [← HRR.out]; rfl, K1.out⟩
  · have HRES2 := HRES.out
    rw [if_neg h] at HRES2
    have HRR := hid HRES2
    clear HRES HRES2
    have hcase : a < 0 ∨ (¬ a < 0 ∧ b < 0) ∨ (¬ a < 0 ∧ ¬ b < 0 ∧ (l.length : Int) ≤ a) ∨ (¬ a < 0 ∧ ¬ b < 0 ∧ ¬ (l.length : Int) ≤ a ∧ (l.length : Int) ≤ b) := by omega
    clear h
    rcases hcase with c1 | ⟨c1, c2⟩ | ⟨c1, c2, c3⟩ | ⟨c1, c2, c3, c4⟩
    all_goals
      go_wp2_with fail
      go_quiet (fail)
      go_wp2_with fail
      go_ret2
      exact ⟨by rw [← HRR.out]; rfl, K1.out.drewN _⟩
end Go.Proofs.YtalihehmbiohlaaDoor
