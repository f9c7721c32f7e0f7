/-
  Step by step: two rows of races that are one: Same of the document's answer, order.Same.
-/
import Derived.Test.YtalihehmbiohlaaDoorOrdEf
namespace Go.Proofs.YtalihehmbiohlaaDoor
open Go.RowKit Go.Maps Go.Proofs.Mem Go.Proofs.Txt Go.Proofs.Ord Go.Proofs.Mp

set_option maxRecDepth 100000 in
set_option maxHeartbeats 8000000 in
theorem rsame_walk (rs : List Rc) (u v : Value) (w : World) (p q : Nat → Prop) (hu : AtS w p 5 u (rs.map rcC)) (hv : AtS w q 5 v (rs.map rcC)) :
    Calls Tryd.prog 21 #[u, v] w fun e w' => e = .returned (.bool true) ∧ Keep (fun _ => True) w w' := by
  have HU := hid hu
  have HV := hid hv
  obtain ⟨ua, uc, rfl, hu1, hu2⟩ := hu.form
  obtain ⟨va, vc, rfl, hv1, hv2⟩ := hv.form
  rw [List.length_map] at hu1 hv1 HU HV ⊢
  obtain ⟨N, hN⟩ : ∃ N, rs.length = N := ⟨_, rfl⟩
  rw [hN] at hu1 hv1 HU HV ⊢
  have HN := hid hN
  clear hu hv hN
  go_enter Tryd.func21, Tryd.ntmps21
  go_wp2_with fail
  go_loopg [13] N (fun k s13 wr => ∃ i : Nat, i + k = N ∧ s13 = .int .i64 (i : Int) ∧ Keep (fun _ => True) w wr)
  case atStart => exact ⟨0, by omega, rfl, Keep.refl _ _⟩
  case round =>
    obtain ⟨i, hik, rfl, hin⟩ := hrel
    have HI := hid (And.intro hin hik)
    by_cases hlt : i < N
    · have l0 : (i : Int) < (N : Int) := by omega
      obtain ⟨x, hx⟩ : ∃ x, rs[i]? = some x := ⟨_, List.getElem?_eq_getElem (by rw [HN.out]; exact hlt)⟩
      obtain ⟨b1, o1, rfl, _, r1⟩ := HU.out.get i (x := rcC x) (by rw [List.getElem?_map, hx]; rfl)
      obtain ⟨b2, o2, rfl, _, r2⟩ := HV.out.get i (x := rcC x) (by rw [List.getElem?_map, hx]; rfl)
      have RR := hid (show wr.rangeAt b1 (o1 + i * 5) (rcC x) ∧ wr.rangeAt b2 (o2 + i * 5) (rcC x) from ⟨fun k y hy => (hin.cell (x := ⟨b1, o1 + i * 5 + k, none⟩) trivial).trans (r1 k y hy), fun k y hy => (hin.cell (x := ⟨b2, o2 + i * 5 + k, none⟩) trivial).trans (r2 k y hy)⟩)
      have xsz := rc_size x
      have hne : ∀ w0 : World, (binOp .neq 56 (.agg (rcC x).toArray) (.agg (rcC x).toArray)).run Tryd.prog w0 = .ok (.bool false) w0 := fun w0 => by rw [neq_race]; simp
      clear hin hik hx r1 r2
      go_upto_region 6 with fail
      refine wp_region_plan [true, true, true, true, true, true, true, true, true] (.free 0 (.free 1 (.free 2 (.free 3 (.free 4 (.free 5 (.free 6 (.free 7 (.free 8 (.done)))))))))) (fun wx => wx.rangeAt b1 (o1 + i * 5) (rcC x) ∧ wx.rangeAt b2 (o2 + i * 5) (rcC x)) (by kernel_rfl) (by kernel_rfl) RR.out ?_
      iterate 3 (refine plan_free rfl rfl (fun K hK => ?_); go_simp; refine hK _ ?_; clear hK K)
      refine plan_load rfl rfl 56 (.tmp 18) rfl b1 (o1 + i * 5) rfl (rcC x) _ (fun w0 h0 => h0.1) Tryd.underlying56 rfl xsz (fun K hK => ?_); refine hK _ ?_; clear hK K
      iterate 3 (refine plan_free rfl rfl (fun K hK => ?_); go_simp; refine hK _ ?_; clear hK K)
      refine plan_load rfl rfl 56 (.tmp 22) rfl b2 (o2 + i * 5) rfl (rcC x) _ (fun w0 h0 => h0.2) Tryd.underlying56 rfl xsz (fun K hK => ?_); refine hK _ ?_; clear hK K
      iterate 1 (refine plan_free rfl rfl (fun K hK => ?_); go_simp; refine hK _ ?_; clear hK K)
      unfold runs
      go_wp2_with fail
      go_roundg (gk - 1)
      case measure => have := HI.out.2; omega
      case rel => exact ⟨i + 1, by have := HI.out.2; omega, by go_num, HI.out.1.drew⟩
    · obtain rfl : N = i := by omega
      clear hin hik hlt
      go_wp2_with fail
      go_ret
      exact ⟨rfl, HI.out.1⟩

set_option maxRecDepth 100000 in
set_option maxHeartbeats 8000000 in
theorem equal_races_walk (rs : List Rc) (u v : Value) (w : World) (p q : Nat → Prop) (hu : AtS w p 5 u (rs.map rcC)) (hv : AtS w q 5 v (rs.map rcC)) :
    Calls Tryd.prog 32 #[u, v] w fun e w' => e = .returned (.bool true) ∧ Keep (fun _ => True) w w' := by
  have HU := hid hu
  have HV := hid hv
  obtain ⟨ua, uc, rfl, hu1, hu2⟩ := hu.form
  obtain ⟨va, vc, rfl, hv1, hv2⟩ := hv.form
  rw [List.length_map] at hu1 hv1 HU HV ⊢
  obtain ⟨N, hN⟩ : ∃ N, rs.length = N := ⟨_, rfl⟩
  rw [hN] at hu1 hv1 HU HV ⊢
  have HN := hid hN
  clear hu hv hN
  go_enter Tryd.func32, Tryd.ntmps32
  go_wp2_with fail
  go_loopg [13] N (fun k s13 wr => ∃ i : Nat, i + k = N ∧ s13 = .int .i64 (i : Int) ∧ Keep (fun _ => True) w wr)
  case atStart => exact ⟨0, by omega, rfl, Keep.refl _ _⟩
  case round =>
    obtain ⟨i, hik, rfl, hin⟩ := hrel
    have HI := hid (And.intro hin hik)
    by_cases hlt : i < N
    · have l0 : (i : Int) < (N : Int) := by omega
      obtain ⟨x, hx⟩ : ∃ x, rs[i]? = some x := ⟨_, List.getElem?_eq_getElem (by rw [HN.out]; exact hlt)⟩
      obtain ⟨b1, o1, rfl, _, r1⟩ := HU.out.get i (x := rcC x) (by rw [List.getElem?_map, hx]; rfl)
      obtain ⟨b2, o2, rfl, _, r2⟩ := HV.out.get i (x := rcC x) (by rw [List.getElem?_map, hx]; rfl)
      have RR := hid (show wr.rangeAt b1 (o1 + i * 5) (rcC x) ∧ wr.rangeAt b2 (o2 + i * 5) (rcC x) from ⟨fun k y hy => (hin.cell (x := ⟨b1, o1 + i * 5 + k, none⟩) trivial).trans (r1 k y hy), fun k y hy => (hin.cell (x := ⟨b2, o2 + i * 5 + k, none⟩) trivial).trans (r2 k y hy)⟩)
      have xsz := rc_size x
      have hne : ∀ w0 : World, (binOp .neq 56 (.agg (rcC x).toArray) (.agg (rcC x).toArray)).run Tryd.prog w0 = .ok (.bool false) w0 := fun w0 => by rw [neq_race]; simp
      clear hin hik hx r1 r2
      go_upto_region 6 with fail
      refine wp_region_plan [true, true, true, true, true, true, true, true, true] (.free 0 (.free 1 (.free 2 (.free 3 (.free 4 (.free 5 (.free 6 (.free 7 (.free 8 (.done)))))))))) (fun wx => wx.rangeAt b1 (o1 + i * 5) (rcC x) ∧ wx.rangeAt b2 (o2 + i * 5) (rcC x)) (by kernel_rfl) (by kernel_rfl) RR.out ?_
      iterate 3 (refine plan_free rfl rfl (fun K hK => ?_); go_simp; refine hK _ ?_; clear hK K)
      refine plan_load rfl rfl 56 (.tmp 18) rfl b1 (o1 + i * 5) rfl (rcC x) _ (fun w0 h0 => h0.1) Tryd.underlying56 rfl xsz (fun K hK => ?_); refine hK _ ?_; clear hK K
      iterate 3 (refine plan_free rfl rfl (fun K hK => ?_); go_simp; refine hK _ ?_; clear hK K)
      refine plan_load rfl rfl 56 (.tmp 22) rfl b2 (o2 + i * 5) rfl (rcC x) _ (fun w0 h0 => h0.2) Tryd.underlying56 rfl xsz (fun K hK => ?_); refine hK _ ?_; clear hK K
      iterate 1 (refine plan_free rfl rfl (fun K hK => ?_); go_simp; refine hK _ ?_; clear hK K)
      unfold runs
      go_wp2_with fail
      go_roundg (gk - 1)
      case measure => have := HI.out.2; omega
      case rel => exact ⟨i + 1, by have := HI.out.2; omega, by go_num, HI.out.1.drew⟩
    · obtain rfl : N = i := by omega
      clear hin hik hlt
      go_wp2_with fail
      go_ret
      exact ⟨rfl, HI.out.1⟩

theorem osame_walk (rs : List Rc) (u v : Value) (w : World) (p q : Nat → Prop) (hu : AtS w p 5 u (rs.map rcC)) (hv : AtS w q 5 v (rs.map rcC)) :
    Calls Tryd.prog 22 #[u, v] w fun e w' => e = .returned (.bool true) ∧ Keep (fun _ => True) w w' := by
  have HE := hid (equal_races_walk rs u v w p q hu hv)
  obtain ⟨ua, uc, rfl, _, _⟩ := hu.form
  obtain ⟨va, vc, rfl, _, _⟩ := hv.form
  rw [List.length_map] at HE ⊢
  clear hu hv
  go_enter Tryd.func22, Tryd.ntmps22
  go_wp2_with fail
  refine HE.out.mono ?_
  rintro e w1 ⟨rfl, k1⟩
  have K1 := hid k1
  clear k1
  go_wp2_with fail
  go_ret
  exact ⟨rfl, K1.out⟩
end Go.Proofs.YtalihehmbiohlaaDoor
