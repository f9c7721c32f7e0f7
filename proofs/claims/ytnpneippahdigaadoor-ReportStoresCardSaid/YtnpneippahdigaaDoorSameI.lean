/-
  Step by step: 'SameInts' of stockadenum, at two slices that read alike.
-/
import Derived.Test.YtnpneippahdigaaDoorTxt4
import Derived.Test.YtnpneippahdigaaDoorProg
import Derived.Deep.QuietTactic
import Derived.Deep.DeepCutAuto
namespace Go.Proofs.YtnpneippahdigaaDoor
open Go.RowKit Go.Proofs.Mem Go.Proofs.Txt

set_option maxRecDepth 100000 in
set_option maxHeartbeats 1000000 in
theorem sameInts_walk (u v : Value) (zs : List Int) (w : World) (p p' : Nat → Prop) (hu : Cells w p u (zs.map (Value.int .i64))) (hv : Cells w p' v (zs.map (Value.int .i64))) :
    Calls Tryd.prog 56 #[u, v] w fun e w' => e = .returned (.bool true) ∧ Keep (fun _ => True) w w' := by
  have HU := hid hu
  have HV := hid hv
  obtain ⟨a1, n1, c1, rfl, e1, m1, q1, _⟩ := hu
  obtain ⟨a2, n2, c2, rfl, e2, m2, q2, _⟩ := hv
  rw [List.length_map] at e1 e2
  subst e1 e2
  have q1' : c1 ≤ 9223372036854775807 := by simpa [maxLen] using q1
  have q2' : c2 ≤ 9223372036854775807 := by simpa [maxLen] using q2
  have t0 : ((zs.length : Int) != (zs.length : Int)) = false := by simp
  clear q1 q2
  go_enter Tryd.func56, Tryd.ntmps56
  go_wp2_with fail
  go_loopg [13] zs.length (fun k s13 wr => ∃ i : Nat, i + k = zs.length ∧ s13 = .int .i64 (i : Int) ∧ Keep (fun _ => True) w wr)
  case atStart => exact ⟨0, by omega, rfl, Keep.refl _ _⟩
  case round =>
    obtain ⟨i, hik, rfl, hk⟩ := hrel
    have HK := hid hk
    clear hk
    by_cases hlt : i < zs.length
    · have l0 : (i : Int) < (zs.length : Int) := by omega
      obtain ⟨z, hz⟩ : ∃ z, zs[i] = z := ⟨_, rfl⟩
      obtain ⟨b1, o1, ha1, _, hc1⟩ : ∃ blk off, a1 = some ⟨blk, off, none⟩ ∧ True ∧ ∀ i, i < zs.length → w.cell? ⟨blk, off + i, none⟩ = (zs.map (Value.int .i64))[i]? := by
        obtain ⟨a, len, cap, e, h1, _, _, h4⟩ := HU.out
        cases e
        obtain ⟨b, o, h5, _, h6⟩ := h4 (by omega)
        exact ⟨b, o, h5, trivial, h6⟩
      obtain ⟨b2, o2, ha2, _, hc2⟩ : ∃ blk off, a2 = some ⟨blk, off, none⟩ ∧ True ∧ ∀ i, i < zs.length → w.cell? ⟨blk, off + i, none⟩ = (zs.map (Value.int .i64))[i]? := by
        obtain ⟨a, len, cap, e, h1, _, _, h4⟩ := HV.out
        cases e
        obtain ⟨b, o, h5, _, h6⟩ := h4 (by omega)
        exact ⟨b, o, h5, trivial, h6⟩
      subst ha1 ha2
      have SS := hid (show ∀ wx : World, Keep (fun _ => True) w wx → wx.cell? ⟨b1, o1 + i, none⟩ = some (.int .i64 z) ∧ wx.cell? ⟨b2, o2 + i, none⟩ = some (.int .i64 z) from fun wx kx =>
        ⟨(kx.cell (x := ⟨b1, o1 + i, none⟩) trivial).trans (by rw [hc1 i hlt, List.getElem?_map, List.getElem?_eq_getElem hlt, hz]; rfl), (kx.cell (x := ⟨b2, o2 + i, none⟩) trivial).trans (by rw [hc2 i hlt, List.getElem?_map, List.getElem?_eq_getElem hlt, hz]; rfl)⟩)
      have HIK := hid (And.intro hik hlt)
      clear hc1 hc2 hz hik
      go_upto_region 6 with fail
      have ne : (z != z) = false := by simp
      refine wp_region_plan [true, true, true, true, true, true, true, true, true] (.free 0 (.free 1 (.free 2 (.free 3 (.free 4 (.free 5 (.free 6 (.free 7 (.free 8 (.done)))))))))) (fun wx => Keep (fun _ => True) w wx) (by kernel_rfl) (by kernel_rfl) HK.out.drew ?_
      iterate 3 (refine plan_free rfl rfl (fun K hK => ?_); go_simp; refine hK _ ?_; clear hK K)
      refine plan_held (.int .i64 z) rfl rfl (fun w0 h0 => by obtain ⟨q1, q2⟩ := SS.out w0 h0; clear h0; go_simp) (fun K hK => ?_); go_simp; refine hK _ ?_; clear hK K
      iterate 3 (refine plan_free rfl rfl (fun K hK => ?_); go_simp; refine hK _ ?_; clear hK K)
      refine plan_held (.int .i64 z) rfl rfl (fun w0 h0 => by obtain ⟨q1, q2⟩ := SS.out w0 h0; clear h0; go_simp) (fun K hK => ?_); go_simp; refine hK _ ?_; clear hK K
      refine plan_free rfl rfl (fun K hK => ?_); go_simp; refine hK _ ?_; clear hK K
      unfold runs
      go_wp2_with fail
      go_roundg (gk - 1)
      case measure => have := HIK.out; omega
      case rel => exact ⟨i + 1, by have := HIK.out; omega, by go_num, HK.out.drew⟩
    · obtain rfl : i = zs.length := by omega
      clear hlt hik
      go_wp2_with fail
      go_ret
      exact ⟨rfl, HK.out⟩
end Go.Proofs.YtnpneippahdigaaDoor
