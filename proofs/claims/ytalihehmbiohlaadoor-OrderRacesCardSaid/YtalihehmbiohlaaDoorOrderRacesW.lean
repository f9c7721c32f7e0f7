/-
  Step by step: the statement OrderRaces.
-/
import Derived.Test.YtalihehmbiohlaaDoorOrdSm
import Derived.Test.YtalihehmbiohlaaDoorOrdF
import Derived.Test.YtalihehmbiohlaaDoorRowC
import Derived.Test.YtalihehmbiohlaaDoorInC
import Derived.Test.YtalihehmbiohlaaDoorNumErrC
namespace Go.Proofs.YtalihehmbiohlaaDoor
open Go.RowKit Go.Maps Go.Proofs.Mem Go.Proofs.Txt Go.Proofs.Ord Go.Proofs.Mp

theorem ev4_info : (Tryd.prog.info? 25).map (fun i => (i.zero, i.size, i.bytes)) = some (some (.agg (evC ⟨0, 0, 0, 0⟩).toArray), 4, 32) := by kernel_rfl
theorem evC_len4 {l : List Ev} : ∀ x ∈ l.map evC, x.length = 4 := fun x hx => by obtain ⟨e, _, rfl⟩ := List.mem_map.1 hx; rfl
theorem ev4_copy (B : Nat) (w : World) (ty : TypeId) (v s : Value) (p : Nat → Prop) (l : List Ev) (h : OwnS B w 25 4 v []) (hs : EvsAt w p s l) (hb : l.length ≤ 1000000) (hB : B ≤ w.heap.size) :
    ∃ v' w', (Builtin.append_ #[22, 22] ty #[v, s]).run Tryd.prog w = .ok v' w' ∧ OwnS B w' 25 4 v' (l.map evC) ∧ Keep (fun b => b < w.heap.size ∧ v.ownBlock ≠ some b) w w' ∧ ∀ b, v'.ownBlock = some b → v.ownBlock = some b ∨ w.heap.size ≤ b := by
  have hss : AtS w p 4 s (l.map evC) := by
    obtain ⟨a, len, cap, rfl, h1, h2, h3, h4⟩ := hs
    refine ⟨a, len, cap, rfl, by rw [List.length_map]; exact h1, h2, h3, fun i x hx => ?_⟩
    rw [List.getElem?_map] at hx
    obtain ⟨e, he, rfl⟩ := Option.map_eq_some_iff.1 hx
    exact h4 i e he
  exact copy_s 22 25 _ 4 32 Tryd.underlying22 ev4_info rfl (by decide) B w ty v s p (l.map evC) h hss evC_len4 (fun x hx y hy => by
    obtain ⟨e, _, rfl⟩ := List.mem_map.1 hx
    simp only [evC, List.mem_cons, List.not_mem_nil, or_false] at hy
    rcases hy with rfl | rfl | rfl | rfl <;> rfl) (by rw [List.length_map]; exact hb) (by decide) hB
theorem own_evs {B : Nat} {w : World} {v : Value} {l : List Ev} (h : OwnS B w 25 4 v (l.map evC)) : EvsAt w (fun b => v.ownBlock = some b) v l := by
  obtain ⟨a, len, cap, rfl, h1, h2, h3, h4⟩ := h.at_ (fun x hx => by obtain ⟨e, _, rfl⟩ := List.mem_map.1 hx; rfl)
  exact ⟨a, len, cap, rfl, by rw [h1, List.length_map], h2, h3, fun i x hx => h4 i (evC x) (by rw [List.getElem?_map, hx]; rfl)⟩
theorem ev_stood : Tryd.prog.stoodInHeld 25 = false := by kernel_rfl
theorem ev_fields : (Tryd.prog.fieldsOf 25).toList.map (fun f => (f.name == "_", f.type, f.offset)) = [(false, 3, 0), (false, 3, 1), (false, 3, 2), (false, 3, 3)] := by kernel_rfl
theorem ev_under' : Tryd.prog.underlying 25 = some (.struct (Tryd.prog.fieldsOf 25)) := by
  unfold Program.fieldsOf
  rw [Tryd.underlying25]
theorem eqF_ev (w : World) (x : Ev) : ∀ (fs : List Field), fs.map (fun f => (f.name == "_", f.type, f.offset)) = [(false, 3, 0), (false, 3, 1), (false, 3, 2), (false, 3, 3)] →
    (Op.eqFields 9999 (evC x).toArray (evC x).toArray fs).run Tryd.prog w = .ok true w
  | [f0, f1, f2, f3], h => by
    simp only [List.map_cons, List.map_nil, List.cons.injEq, Prod.mk.injEq, and_true, beq_eq_false_iff_ne] at h
    obtain ⟨⟨n0, t0, o0⟩, ⟨n1, t1, o1⟩, ⟨n2, t2, o2⟩, n3, t3, o3⟩ := h
    have c1 : Tryd.prog.cellsOf 3 = 1 := by kernel_rfl
    have u1 := Tryd.underlying3
    obtain ⟨a, b, c, d⟩ := x
    simp only [Op.eqFields, n0, n1, n2, n3, t0, t1, t2, t3, o0, o1, o2, o3, evC, ne_eq, not_false_eq_true, if_true, Sem.run_bind]
    go_simp
  | [], h => by simp at h
  | [_], h => by simp at h
  | [_, _], h => by simp at h
  | [_, _, _], h => by simp at h
  | _ :: _ :: _ :: _ :: _ :: _, h => by simp at h
theorem neq_ev (x : Ev) (w : World) : (binOp .neq 25 (.agg (evC x).toArray) (.agg (evC x).toArray)).run Tryd.prog w = .ok (.bool false) w := by
  rw [run_neq_struct, run_equalIn_agg w 9999 _ _ _ ev_under' ev_stood, eqF_ev w x _ ev_fields]
  rfl
theorem rcC_ne' {l : List Rc} : ∀ x ∈ l.map rcC, x ≠ [] := fun x hx => by obtain ⟨e, _, rfl⟩ := List.mem_map.1 hx; simp [rcC]
set_option maxRecDepth 100000 in
set_option maxHeartbeats 8000000 in
theorem orderRaces_walk (v : Value) (l : List Ev) (rv : Value) (zs : List Int) (es : List Addr) (w : World) (hin : ∀ e ∈ l, Ev.inRange e) (hrw : ∀ r ∈ zs, r ≤ 9223372036854775807) (he : ErrsAt w (errGs.take 17) es) (hd : es.Nodup) (hv : EvsAt w (fun _ => True) v l) (hr : Cells w (fun _ => True) rv (zs.map (Value.int .i64))) :
    Calls Tryd.prog 8 #[v, rv] w fun e w' => e = .returned (.bool true) ∧ Keep (· < w.heap.size) w w' := by
  have HES : Hid (ErrsAt w errGs es) := he
  obtain ⟨ea, hea, _⟩ : ∃ q, es[0]? = some q ∧ _ := ev_at HES.out 0 _ rfl
  have HE : Hid (ErrAt w 0 ea) := by
    obtain ⟨g, h1, h2⟩ := errs_get HES.out 0 ea hea
    simp [errGs] at h1
    subst h1
    exact h2
  have NE := hid (show ∀ wx, Keep (· < w.heap.size) w wx → Calls Tryd.prog 16 #[.iface 133 (.pointer (some ea))] wx fun e w' => e = .returned (.int .i64 1) ∧ Keep (· < wx.heap.size) wx w' from fun wx kx => num_at es 0 ea wx (HES.out.keep kx (fun _ h => h)) hd hea)
  have HV := hid (hv.lt.mono (q := fun b => b < w.heap.size) (fun _ h => h.1))
  have HR := hid (hr.lt.mono (q := fun b => b < w.heap.size) (fun _ h => h.1))
  have HIN := hid hin
  have HRW := hid hrw
  obtain ⟨va, vc, rfl, hc1, hc2⟩ := hv.form
  obtain ⟨ra, rc, rfl⟩ : ∃ a c, rv = .slice a zs.length c := by
    obtain ⟨a, n, c, e, h1, _⟩ := hr
    rw [List.length_map] at h1
    exact ⟨a, c, by rw [e, h1]⟩
  clear hin he hv hr hrw hd hea
  go_enter Tryd.func8, Tryd.ntmps8
  go_wp2_with fail
  refine (alive18_walk w _ HE.out.cell HE.out.lt).mono ?_
  rintro e w1 ⟨rfl, k1⟩
  have K1 := hid k1
  clear k1
  have hcase : 60 < l.length ∨ (l.length ≤ 60 ∧ 100 < zs.length) ∨ (l.length ≤ 60 ∧ zs.length ≤ 100) := by omega
  rcases hcase with h2 | ⟨h2, h3⟩ | ⟨h2, h3⟩
  · have d2 : decide ((60 : Int) < (l.length : Int)) = true := by simp; omega
    go_wp2_with fail
    go_ret
    exact ⟨rfl, K1.out⟩
  · have d2 : decide ((60 : Int) < (l.length : Int)) = false := by simp; omega
    have d3 : decide ((100 : Int) < (zs.length : Int)) = true := by simp; omega
    go_wp2_with fail
    go_ret
    exact ⟨rfl, K1.out⟩
  have d2 : decide ((60 : Int) < (l.length : Int)) = false := by simp; omega
  have d3 : decide ((100 : Int) < (zs.length : Int)) = false := by simp; omega
  have HC := hid (fun ty : TypeId => ev4_copy w1.heap.size (w1.alloc (.cells #[] 25)) ty (.slice (some ⟨w1.heap.size, 0, none⟩) 0 0) (.slice va l.length vc) _ l ⟨rfl, .inr ⟨w1.heap.size, 0, #[], rfl, Nat.le_refl _, heap_alloc_new w1 _, Nat.le_refl _, by decide, rfl, rfl⟩⟩ (HV.out.keep (K1.out.trans ((Keep.refl _ _).alloc (.cells #[] 25) (fun b hb => Nat.lt_of_lt_of_le hb K1.out.size))) (fun _ h => h)) (by omega) (by rw [World.size_alloc]; omega))
  go_upto_region 6 with (at_builtin; refine wpList_app rfl (.tmp 20) (.tmp 21) 22 22 rfl _ (HC.out _) ?_; rintro v2 w2 ⟨r, k, o⟩; have H2 := hid (And.intro r k); clear r k o)
  have K2 := hid (K1.out.trans ((((Keep.refl _ _).alloc (.cells #[] 25) (fun b hb => Nat.lt_of_lt_of_le hb K1.out.size)).trans (H2.out.2.mono fun b (hb : b < w.heap.size) => ⟨by rw [World.size_alloc]; have := K1.out.size; omega, fun e => by have := K1.out.size; injection e with e; exact absurd e (Nat.ne_of_gt (Nat.lt_of_lt_of_le hb this))⟩))))
  obtain ⟨ia, ic, rfl⟩ := H2.out.1.form
  rw [List.length_map] at H2 ⊢
  have HI2 := hid ((own_evs H2.out.1).lt.mono (q := fun b => b < w2.heap.size) (fun _ h => h.1))
  have HE2 := hid (HE.out.keep K2.out HE.out.lt HE.out.blt)
  have hwf2 := hid (fun e (he : e ∈ l) => (HIN.out e he).2.2.1)
  have HFO := hid (show ∀ wx, Keep (· < w.heap.size) w wx → Calls Tryd.prog 12 #[.slice va l.length vc] wx fun e w' => e = .returned (.bool (l.all Ev.ok)) ∧ Keep (· < wx.heap.size) wx w' from fun wx kx => oform_walk l _ wx _ (HV.out.keep kx (fun _ h => h)))
  -- what Races gives
  obtain ⟨ov, E, hrun, hcs⟩ : ∃ (rs : List Rc) (E : Value), (Calls Tryd.prog 10 #[.slice ia l.length ic, .slice ra zs.length rc] w2 fun e w' => ∃ out, e = .returned (.tuple #[out, E]) ∧ OwnS w2.heap.size w' 56 5 out (rs.map rcC) ∧ Keep (· < w2.heap.size) w2 w') ∧
      ((l.all Ev.ok = true ∧ rs = racesP zs l ∧ E = .nilIface) ∨ (l.all Ev.ok = false ∧ rs = [] ∧ E = .iface 133 (.pointer (some ea)))) := by
    cases hok : l.all Ev.ok
    · refine ⟨[], _, (races_bad l _ _ _ w2 _ HI2.out HE2.out.cell HE2.out.lt hok ⟨_, _, rfl⟩).mono ?_, .inr ⟨rfl, rfl, rfl⟩⟩
      rintro e w' ⟨he, hk⟩
      exact ⟨_, he, OwnS.nil _ _ _ _, hk⟩
    · exact ⟨_, _, races_walk zs l _ _ _ w2 _ _ HI2.out (HR.out.keep K2.out (fun _ h => h)) HE2.out.cell HE2.out.lt hok hwf2.out (by omega) HRW.out, .inl ⟨rfl, rfl, rfl⟩⟩
  have HRUN := hid hrun
  have HCS := hid hcs
  clear hrun hcs
  go_wp2_with fail
  refine HRUN.out.mono ?_
  rintro e w3 ⟨o3, rfl, q3, k3⟩
  have A3 := hid (((q3.at_ (fun x hx => by obtain ⟨r, _, rfl⟩ := List.mem_map.1 hx; rfl)).lt rcC_ne').mono (q := fun b => b < w3.heap.size) (fun _ h => h.1))
  obtain ⟨oa, oc, rfl⟩ := q3.form
  rw [List.length_map] at A3 ⊢
  obtain ⟨n3, hn3⟩ : ∃ n, ov.length = n := ⟨_, rfl⟩
  rw [hn3] at A3 ⊢
  have HN3 := hid hn3
  have K3 := hid (K2.out.trans (k3.mono fun b hb => Nat.lt_of_lt_of_le hb K2.out.size))
  have HI3 := hid (HI2.out.keep k3 (fun _ h => h))
  have hw23 := Nat.le_trans K2.out.size k3.size
  clear q3 k3 hn3
  go_wp2_with fail
  go_loopg [31] l.length (fun k s31 wr => ∃ i : Nat, i + k = l.length ∧ s31 = .int .i64 (i : Int) ∧ Keep (fun _ => True) w3 wr)
  case atStart => exact ⟨0, by omega, rfl, Keep.refl _ _⟩
  case round =>
    obtain ⟨i, hik, rfl, hin⟩ := hrel
    have HI := hid (And.intro hin hik)
    by_cases hlt : i < l.length
    · have l0 : (i : Int) < (l.length : Int) := by omega
      obtain ⟨b1, o1, rfl, _, r1⟩ := HI3.out.get i hlt
      obtain ⟨b2, o2, rfl, _, r2⟩ := (HV.out.keep K3.out (fun _ h => h)).get i hlt
      obtain ⟨x, hx⟩ : ∃ x, l[i] = x := ⟨_, rfl⟩
      rw [hx] at r1 r2
      have RR := hid (show wr.rangeAt b1 (o1 + i * 4) (evC x) ∧ wr.rangeAt b2 (o2 + i * 4) (evC x) from ⟨fun k y hy => (hin.cell (x := ⟨b1, o1 + i * 4 + k, none⟩) trivial).trans (r1 k y hy), fun k y hy => (hin.cell (x := ⟨b2, o2 + i * 4 + k, none⟩) trivial).trans (r2 k y hy)⟩)
      have xsz := ev_size x
      have hne : ∀ w0 : World, (binOp .neq 25 (.agg (evC x).toArray) (.agg (evC x).toArray)).run Tryd.prog w0 = .ok (.bool false) w0 := fun w0 => neq_ev x w0
      clear hin hik hx r1 r2
      go_upto_region 10 with fail
      refine wp_region_plan [true, true, true, true, true, true, true, true, true] (.free 0 (.free 1 (.free 2 (.free 3 (.free 4 (.free 5 (.free 6 (.free 7 (.free 8 (.done)))))))))) (fun wx => wx.rangeAt b1 (o1 + i * 4) (evC x) ∧ wx.rangeAt b2 (o2 + i * 4) (evC x)) (by kernel_rfl) (by kernel_rfl) RR.out ?_
      iterate 3 (refine plan_free rfl rfl (fun K hK => ?_); go_simp; refine hK _ ?_; clear hK K)
      refine plan_load rfl rfl 25 (.tmp 36) rfl b1 (o1 + i * 4) rfl (evC x) _ (fun w0 h0 => h0.1) Tryd.underlying25 rfl xsz (fun K hK => ?_); refine hK _ ?_; clear hK K
      iterate 3 (refine plan_free rfl rfl (fun K hK => ?_); go_simp; refine hK _ ?_; clear hK K)
      refine plan_load rfl rfl 25 (.tmp 40) rfl b2 (o2 + i * 4) rfl (evC x) _ (fun w0 h0 => h0.2) Tryd.underlying25 rfl xsz (fun K hK => ?_); refine hK _ ?_; clear hK K
      iterate 1 (refine plan_free rfl rfl (fun K hK => ?_); go_simp; refine hK _ ?_; clear hK K)
      unfold runs
      go_wp2_with fail
      go_roundg (gk - 1)
      case measure => have := HI.out.2; omega
      case rel => exact ⟨i + 1, by have := HI.out.2; omega, by go_num, HI.out.1.drew⟩
    · obtain rfl : l.length = i := by omega
      have KL := hid (K3.out.trans (hin.mono fun _ _ => trivial))
      have A4 := hid (A3.out.keep hin (fun _ _ => trivial))
      clear hin hik hlt
      go_wp2_with fail
      refine (HFO.out _ KL.out).mono ?_
      rintro e w5 ⟨rfl, k5⟩
      have K5 := hid (KL.out.trans (k5.mono fun b hb => Nat.lt_of_lt_of_le hb KL.out.size))
      have A5 := hid ((A4.out.lt rcC_ne').keep k5 (fun b hb => hb.1))
      clear k5
      rcases HCS.out with ⟨hok, rfl, rfl⟩ | ⟨hok, rfl, rfl⟩
      · rw [hok]
        go_wp2_with fail
        refine (table_walk zs l _ _ w5 _ _ (HV.out.keep K5.out (fun _ h => h)) (HR.out.keep K5.out (fun _ h => h)) hok (by omega) (by omega) HRW.out).mono ?_
        rintro e w6 ⟨T, bs, rfl, hT⟩
        have K6 := hid (K5.out.trans (hT.keep.mono fun b hb => Nat.lt_of_lt_of_le hb K5.out.size))
        have A6 := hid ((A5.out.lt rcC_ne').keep hT.keep (fun b hb => hb.1))
        have HT := hid hT
        clear hT
        go_wp2_with fail
        refine (refRaces_walk zs l _ T bs w5 w6 _ (HV.out.keep K6.out (fun _ h => h)) HT.out hok hwf2.out (by omega)).mono ?_
        rintro e w7 ⟨o7, rfl, q7, k7⟩
        have B7 := hid (((q7.at_ (fun x hx => by obtain ⟨r, _, rfl⟩ := List.mem_map.1 hx; rfl)).lt rcC_ne').mono (q := fun b => b < w7.heap.size) (fun _ h => h.1))
        obtain ⟨pa, pc, rfl⟩ := q7.form
        rw [List.length_map] at B7 ⊢
        rw [HN3.out] at B7 ⊢
        have K7 := hid (K6.out.trans (k7.mono fun b hb => Nat.lt_of_lt_of_le hb K6.out.size))
        have A7 := hid ((A6.out.lt rcC_ne').keep k7 (fun b hb => hb.1))
        clear q7 k7
        go_wp2_with fail
        refine (rsame_walk (racesP zs l) _ _ w7 _ _ A7.out B7.out).mono ?_
        rintro e w8 ⟨rfl, k8⟩
        have K8 := hid (K7.out.trans (k8.mono fun _ _ => trivial))
        have A8 := hid (And.intro (A7.out.keep k8 (fun _ _ => trivial)) (B7.out.keep k8 (fun _ _ => trivial)))
        clear k8
        go_wp2_with fail
        refine (osame_walk (racesP zs l) _ _ w8 _ _ A8.out.1 A8.out.2).mono ?_
        rintro e w9 ⟨rfl, k9⟩
        have K9 := hid (K8.out.trans (k9.mono fun _ _ => trivial))
        clear k9
        go_wp2_with fail
        go_ret
        exact ⟨rfl, K9.out⟩
      · rw [hok]
        obtain rfl : n3 = 0 := by rw [← HN3.out]; rfl
        go_wp2_with fail
        refine (NE.out _ K5.out).mono ?_
        rintro e w6 ⟨rfl, k6⟩
        have K6 := hid (K5.out.trans (k6.mono fun b hb => Nat.lt_of_lt_of_le hb K5.out.size))
        clear k6
        go_wp2_with fail
        go_ret
        exact ⟨rfl, K6.out⟩
end Go.Proofs.YtalihehmbiohlaaDoor
