/-
  Step by step: 'Same' of the reference of layer 20, at two reports that are one.
-/
import Derived.Test.YtnpneippahdigaaDoorRepA
import Derived.BigQuiet
import Derived.Deep.QuietTactic
namespace Go.Proofs.YtnpneippahdigaaDoor
open Go.RowKit Go.Proofs.Mem Go.Proofs.Txt

theorem race_stood : Tryd.prog.stoodInHeld 114 = false := by kernel_rfl
theorem race_guard : Tryd.prog.eqGuardType Tryd.prog.depth 114 = false := by kernel_rfl
theorem race_fields : (Tryd.prog.fieldsOf 114).toList.map (fun f => (f.name == "_", f.type, f.offset)) = [(false, 3, 0), (false, 3, 1), (false, 3, 2), (false, 4, 3), (false, 4, 4)] := by kernel_rfl
theorem race_under' : Tryd.prog.underlying 114 = some (.struct (Tryd.prog.fieldsOf 114)) := by
  unfold Program.fieldsOf
  rw [Tryd.underlying114]
theorem eqF_race (w : World) (x : Rp.Race) : ∀ (fs : List Field), fs.map (fun f => (f.name == "_", f.type, f.offset)) = [(false, 3, 0), (false, 3, 1), (false, 3, 2), (false, 4, 3), (false, 4, 4)] →
    (Op.eqFields 9999 (rcC x).toArray (rcC x).toArray fs).run Tryd.prog w = .ok true w
  | [f0, f1, f2, f3, f4], h => by
    simp only [List.map_cons, List.map_nil, List.cons.injEq, Prod.mk.injEq, and_true, beq_eq_false_iff_ne] at h
    obtain ⟨⟨n0, t0, o0⟩, ⟨n1, t1, o1⟩, ⟨n2, t2, o2⟩, ⟨n3, t3, o3⟩, n4, t4, o4⟩ := h
    have c1 : Tryd.prog.cellsOf 3 = 1 := by kernel_rfl
    have c2 : Tryd.prog.cellsOf 4 = 1 := by kernel_rfl
    have u1 := Tryd.underlying3
    have u2 := Tryd.underlying4
    simp only [Op.eqFields, n0, n1, n2, n3, n4, t0, t1, t2, t3, t4, o0, o1, o2, o3, o4, rcC, ne_eq, not_false_eq_true, if_true, Sem.run_bind]
    go_simp
  | [], h => by simp at h
  | [_], h => by simp at h
  | [_, _], h => by simp at h
  | [_, _, _], h => by simp at h
  | [_, _, _, _], h => by simp at h
  | _ :: _ :: _ :: _ :: _ :: _ :: _, h => by simp at h
theorem neq_race (x : Rp.Race) (w : World) : (binOp .neq 114 (.agg (rcC x).toArray) (.agg (rcC x).toArray)).run Tryd.prog w = .ok (.bool false) w := by
  rw [run_neq_struct, run_equalIn_agg w 9999 _ _ _ race_under' race_stood, eqF_race w x _ race_fields]
  rfl
theorem neq_end (o f g n at_ : Int) (w : World) : (binOp .neq 23 (.agg (endC o f g n at_).toArray) (.agg (endC o f g n at_).toArray)).run Tryd.prog w = .ok (.bool false) w := by
  rw [run_neq_struct, run_equalIn_agg w 9999 _ _ _ end_under end_stood, eqF_end w o f g n at_ o f g n at_ _ end_fields]
  simp [endEq, Result.andThen]

set_option maxRecDepth 100000 in
set_option maxHeartbeats 4000000 in
theorem same_walk (r : Rp.Rep) (v u : Value) (w : World) (p p' : Nat → Prop) (hv : RacesAt w p v r.races) (hu : RacesAt w p' u r.races) :
    Calls Tryd.prog 22 #[.agg (rpC r v).toArray, .agg (rpC r u).toArray] w fun e w' => e = .returned (.bool true) ∧ Keep (· < w.heap.size) w w' := by
  have HV := hid (hv.lt.mono (q := fun b => b < w.heap.size) (fun _ h => h.1))
  have HU := hid (hu.lt.mono (q := fun b => b < w.heap.size) (fun _ h => h.1))
  obtain ⟨va, vc, rfl, hc1, hc2⟩ := hv.form
  obtain ⟨ua, uc, rfl, hd1, hd2⟩ := hu.form
  obtain ⟨N, hN⟩ : ∃ N, r.races.length = N := ⟨_, rfl⟩
  have HN := hid hN
  rw [hN] at hc1 hd1 HV HU ⊢
  have hi := end_size r.o r.f r.g r.n r.at_
  have hq := end_guard
  clear hv hu hN
  go_enter Tryd.func22, Tryd.ntmps22
  go_upto_region 1 with fail
  refine wp_world (fun w1 => Keep (· < w.heap.size) w w1 ∧ w1.heap[w.heap.size]? = some (.cells (rpC r (.slice va N vc)).toArray 26 (0, 0)) ∧ w1.heap[w.heap.size + 1]? = some (.cells (rpC r (.slice ua N uc)).toArray 26 (0, 0)) ∧ w.heap.size + 1 < w1.heap.size)
    ⟨((Keep.refl _ _).alloc _ (fun _ h => h)).trans (((Keep.refl _ _).alloc _ (fun _ h => h)).mono (fun b (h : b < w.heap.size) => by simp; omega)), (((Keep.refl _ _).alloc _ (fun _ h => h)).block w.heap.size (by simp)).trans (heap_alloc_new w _), heap_alloc2_new w _ _, by simp⟩ ?_
  rintro w1 ⟨k1, R1, R2, z1⟩
  have SS := hid (show ∀ wx : World, Keep (· < w1.heap.size) w1 wx → (wx.rangeAt w.heap.size 0 (endC r.o r.f r.g r.n r.at_) ∧ wx.cell? ⟨w.heap.size, 5, none⟩ = some (.int .i64 r.steps) ∧ wx.cell? ⟨w.heap.size, 6, none⟩ = some (.slice va N vc)) ∧
      (wx.rangeAt (w.heap.size + 1) 0 (endC r.o r.f r.g r.n r.at_) ∧ wx.cell? ⟨w.heap.size + 1, 5, none⟩ = some (.int .i64 r.steps) ∧ wx.cell? ⟨w.heap.size + 1, 6, none⟩ = some (.slice ua N uc)) from fun wx kx => by
    have h := (kx.block _ (by omega)).trans R1
    have h' := (kx.block _ z1).trans R2
    exact ⟨⟨range_at h 0 5, cell_at h 5, cell_at h 6⟩, range_at h' 0 5, cell_at h' 5, cell_at h' 6⟩)
  have K1 := hid k1
  obtain ⟨⟨r0, a5, a6⟩, r0', b5, b6⟩ := SS.out w1 (Keep.refl _ _)
  have RA := hid r0
  have RB := hid r0'
  clear R1 R2 k1 z1 r0 r0'
  have ne := fun w0 : World => neq_end r.o r.f r.g r.n r.at_ w0
  go_upto_region 3 with (first | refine wpList_load_mid rfl 23 (.tmp 6) rfl w.heap.size 0 rfl (endC r.o r.f r.g r.n r.at_) _ RA.out Tryd.underlying23 rfl hi ?_ | refine wpList_load_mid rfl 23 (.tmp 8) rfl (w.heap.size + 1) 0 rfl (endC r.o r.f r.g r.n r.at_) _ RB.out Tryd.underlying23 rfl hi ?_)
  clear ne a5 b5 b6 RA RB
  go_wp2_with fail
  clear a6
  go_loopg [30] N (fun k s30 wr => ∃ i : Nat, i + k = N ∧ s30 = .int .i64 (i : Int) ∧ Keep (· < w1.heap.size) w1 wr)
  case atStart => exact ⟨0, by omega, rfl, Keep.refl _ _⟩
  case round =>
    obtain ⟨i, hi2, rfl, hk⟩ := hrel
    have HK := hid hk
    clear hk
    by_cases hlt : i < N
    · have hlt' : i < r.races.length := by rw [HN.out]; exact hlt
      obtain ⟨a, len, cap, e, _, _, _, hx⟩ := HV.out
      obtain ⟨blk, off, ha, hb, hr⟩ := hx i r.races[i] (List.getElem?_eq_getElem hlt')
      injection e with e1 e2 e3
      rw [ha] at e1
      subst e1
      obtain ⟨a', len', cap', e', _, _, _, hx'⟩ := HU.out
      obtain ⟨blk', off', ha', hb', hr'⟩ := hx' i r.races[i] (List.getElem?_eq_getElem hlt')
      injection e' with e1' e2' e3'
      rw [ha'] at e1'
      subst e1'
      have l0 : (i : Int) < (N : Int) := by omega
      obtain ⟨x, hxx⟩ : ∃ x, r.races[i] = x := ⟨_, rfl⟩
      rw [hxx] at hr hr'
      have HR := hid (show ∀ wx : World, Keep (· < w1.heap.size) w1 wx → (wx.rangeAt blk (off + i * 5) (rcC x) ∧ wx.rangeAt blk' (off' + i * 5) (rcC x)) ∧ (wx.cell? ⟨w.heap.size, 6, none⟩ = some (.slice (some ⟨blk, off, none⟩) N vc) ∧ wx.cell? ⟨w.heap.size + 1, 6, none⟩ = some (.slice (some ⟨blk', off', none⟩) N uc)) from fun wx kx =>
        ⟨⟨fun j v hv => ((K1.out.trans (kx.mono (fun b h => Nat.lt_of_lt_of_le h K1.out.size))).cell (x := ⟨blk, off + i * 5 + j, none⟩) hb).trans (hr j v hv), fun j v hv => ((K1.out.trans (kx.mono (fun b h => Nat.lt_of_lt_of_le h K1.out.size))).cell (x := ⟨blk', off' + i * 5 + j, none⟩) hb').trans (hr' j v hv)⟩, (SS.out wx kx).1.2.2, (SS.out wx kx).2.2.2⟩)
      have hi5 := rc_size x
      have hg := race_guard
      have nr := fun w0 : World => neq_race x w0
      clear hr hr' hx hx' hxx ha ha' hb hb' hlt' SS e2 e3 e2' e3'
      go_upto_region 6 with fail
      refine wp_region_plan [true, true, true, true, true, true, true, true, true, true, true] (.free 0 (.free 1 (.free 2 (.free 3 (.free 4 (.free 5 (.free 6 (.free 7 (.free 8 (.free 9 (.free 10 (.done))))))))))))
        (fun wx => Keep (· < w1.heap.size) w1 wx) (by kernel_rfl) (by kernel_rfl) HK.out.drew ?_
      refine plan_free rfl rfl (fun K hK => ?_); go_simp; refine hK _ ?_; clear hK K
      refine plan_held (.slice (some ⟨blk, off, none⟩) N vc) rfl rfl (fun w0 h0 => by obtain ⟨_, q1, _⟩ := HR.out w0 h0; clear h0; go_simp) (fun K hK => ?_); go_simp; refine hK _ ?_; clear hK K
      refine plan_free rfl rfl (fun K hK => ?_); go_simp; refine hK _ ?_; clear hK K
      refine plan_free rfl rfl (fun K hK => ?_); go_simp; refine hK _ ?_; clear hK K
      refine plan_load rfl rfl 114 (.tmp 36) rfl blk (off + i * 5) rfl (rcC x) _ (fun w0 h0 => (HR.out w0 h0).1.1) Tryd.underlying114 rfl hi5 (fun K hK => ?_); go_simp; refine hK _ ?_; clear hK K
      refine plan_free rfl rfl (fun K hK => ?_); go_simp; refine hK _ ?_; clear hK K
      refine plan_held (.slice (some ⟨blk', off', none⟩) N uc) rfl rfl (fun w0 h0 => by obtain ⟨_, _, q1⟩ := HR.out w0 h0; clear h0; go_simp) (fun K hK => ?_); go_simp; refine hK _ ?_; clear hK K
      refine plan_free rfl rfl (fun K hK => ?_); go_simp; refine hK _ ?_; clear hK K
      refine plan_free rfl rfl (fun K hK => ?_); go_simp; refine hK _ ?_; clear hK K
      refine plan_load rfl rfl 114 (.tmp 41) rfl blk' (off' + i * 5) rfl (rcC x) _ (fun w0 h0 => (HR.out w0 h0).1.2) Tryd.underlying114 rfl hi5 (fun K hK => ?_); go_simp; refine hK _ ?_; clear hK K
      refine plan_free rfl rfl (fun K hK => ?_); go_simp; refine hK _ ?_; clear hK K
      unfold runs
      go_wp2_with fail
      go_roundg (gk - 1)
      case measure => omega
      case rel => exact ⟨i + 1, by omega, by go_num, HK.out.drew⟩
    · obtain rfl : N = i := by omega
      have KE := hid (K1.out.trans (HK.out.mono (fun b h => Nat.lt_of_lt_of_le h K1.out.size)))
      clear hlt
      go_wp2_with fail
      go_ret
      exact ⟨rfl, KE.out⟩
end Go.Proofs.YtnpneippahdigaaDoor
