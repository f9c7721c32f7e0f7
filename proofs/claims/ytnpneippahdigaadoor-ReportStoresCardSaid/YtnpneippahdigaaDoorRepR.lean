/-
  Step by step: 'Add' of package report's store that takes a report, 'Get'.
-/
import Derived.Test.YtnpneippahdigaaDoorRepQ
namespace Go.Proofs.YtnpneippahdigaaDoor
open Go.RowKit Go.Maps Go.Proofs.Mem Go.Proofs.Txt Go.Proofs.Mp

set_option maxRecDepth 100000 in
set_option maxHeartbeats 2000000 in
theorem sadd_good (S M : Nat) (last : Int) (m : Tab) (r : Rp.Rep) (rv : Value) (ec : Value) (w : World) (p : Nat → Prop) (h : StoreAt w S M last m) (hr : RacesAt w p rv r.races) (he : w.cell? ⟨2, 0, none⟩ = some ec) (hl : 2 < w.heap.size) (hok : Rp.ok r = true) (hp : ∀ b, p b → b ≠ S) (h8 : m.length < 8) (h0 : 0 ≤ last) (h1 : last ≤ 1000000) :
    Calls Tryd.prog 51 #[.pointer (some ⟨S, 0, none⟩), .agg (rpC r rv).toArray] w fun e w' => ∃ v, e = .returned (.tuple #[.int .i64 (last + 1), .nilIface]) ∧ StoreAt w' S M (last + 1) (mput m (last + 1) (repV r v)) ∧ RacesAt w' (fun b => w.heap.size ≤ b) v r.races ∧ Keep (fun k => k < w.heap.size ∧ k ≠ S ∧ k ≠ M) w w' := by
  obtain ⟨va, vc, rfl, hc1, hc2⟩ := hr.form
  have hN : r.races.length ≤ 128 := by
    have h := hok
    simp only [Rp.ok, Rp.headOk, Bool.and_eq_true, decide_eq_true_eq] at h
    exact h.1.2
  have hi := rp_size r (.slice va r.races.length vc)
  have K0 := hid (show Keep (· < w.heap.size) w (w.alloc (.cells (rpC r (.slice va r.races.length vc)).toArray 26)) from (Keep.refl _ _).alloc _ (fun _ h => h))
  have HR := hid (hr.lt.mono (q := fun b => b < w.heap.size ∧ b ≠ S) (fun b h => ⟨h.1, hp b h.2⟩))
  have CK := hid (check_walk r (.slice va r.races.length vc) _ (w.alloc (.cells (rpC r (.slice va r.races.length vc)).toArray 26)) _ (HR.out.keep (q := fun b => b < w.heap.size) K0.out (fun _ h => h.1)) ((K0.out.cell (x := ⟨2, 0, none⟩) hl).trans he) (Nat.lt_of_lt_of_le hl K0.out.size))
  rw [hok] at CK
  have HH := hid h
  have HL := hid h.lt
  have H8 := hid (And.intro h8 hN)
  have R0 := hid (heap_alloc_new w (.cells (rpC r (.slice va r.races.length vc)).toArray 26))
  have Z0 := hid (show w.heap.size < (w.alloc (.cells (rpC r (.slice va r.races.length vc)).toArray 26)).heap.size by simp)
  clear hr he hl hok h h8 hN hp
  go_enter Tryd.func51, Tryd.ntmps51
  go_wp2_with (refine wpList_load_row rfl 26 (.tmp 3) rfl w.heap.size rfl 26 _ (0, 0) _ (heap_alloc_new w _) Tryd.underlying26 rfl hi ?_)
  refine CK.out.mono ?_
  rintro e w1 ⟨he1, k1⟩
  simp only [if_true] at he1
  subst he1
  have K1 := hid (K0.out.trans (k1.mono (fun b h => Nat.lt_of_lt_of_le h K0.out.size)))
  have R1 := hid ((k1.block _ Z0.out).trans R0.out)
  have Z1 := hid (show w.heap.size < w1.heap.size from Nat.lt_of_lt_of_le Z0.out k1.size)
  have H1 := hid (HH.out.keep K1.out HL.out.1 HL.out.2)
  clear k1
  go_wp2_with fail
  refine (sfull_walk S M last m false w1 H1.out (by have := H8.out.1; simp; omega)).mono ?_
  rintro e w2 ⟨rfl, rfl⟩
  have c1 : w1.cell? ⟨S, 1, none⟩ = some (.int .i64 last) := cell_at (cs := [_, _]) H1.out.sto 1
  have f1 := frozen_at (cs := #[.map (some M), .int .i64 last]) H1.out.sto 1
  go_upto_region 7 with fail
  have k2 : Keep (fun k => k ≠ S) w1 (w1.setCell ⟨S, 1, none⟩ (.int .i64 (last + 1))) := (Keep.refl _ _).setCell _ (by simp)
  have s2 : (w1.setCell ⟨S, 1, none⟩ (.int .i64 (last + 1))).heap[S]? = some (.cells #[.map (some M), .int .i64 (last + 1)] 147 (0, 0)) := set_at (cs := [.map (some M), .int .i64 last]) H1.out.sto 1 _
  have hne : w.heap.size ≠ S := by have := HL.out.1; omega
  refine wp_world (fun w2 => Keep (fun k => k ≠ S) w1 w2 ∧ StoreAt w2 S M (last + 1) m ∧ w2.heap[w.heap.size]? = some (.cells (rpC r (.slice va r.races.length vc)).toArray 26 (0, 0)) ∧ w.heap.size < w2.heap.size)
    ⟨k2, ⟨s2, H1.out.map.keep k2 (fun e => H1.out.ne e.symm), H1.out.ne⟩, (k2.block _ hne).trans R1.out, Nat.lt_of_lt_of_le Z1.out k2.size⟩ ?_
  rintro w2 ⟨k3, h3, r3, z3⟩
  have H2 := hid (And.intro k3 (And.intro h3 (And.intro r3 z3)))
  have HRW := hid ((HR.out.keep (q := fun b => b < w.heap.size) K1.out (fun _ h => h.1)).keep (q := fun k => k ≠ S) k3 (fun _ h => h.2))
  have c6 : w2.cell? ⟨w.heap.size, 6, none⟩ = some (.slice va r.races.length vc) := cell_at r3 6
  clear k2 s2 c1 f1 k3 h3 r3 z3
  go_wp2_with fail
  refine (clone_races _ r.races w2 _ (by have := H8.out.2; omega) HRW.out).mono ?_
  rintro e w3 ⟨v, rfl, ho, k3⟩
  obtain ⟨a3, c3, rfl, _⟩ := ho.at_.form
  have r3 := (k3.block _ H2.out.2.2.2).trans H2.out.2.2.1
  have H3 := hid (And.intro ho (And.intro k3 r3))
  have d6 : w3.cell? ⟨w.heap.size, 6, none⟩ = some (.slice va r.races.length vc) := cell_at r3 6
  have e6 := frozen_at r3 6
  clear ho k3 r3 c6
  go_upto_region 8 with fail
  have k4 : Keep (fun k => k ≠ w.heap.size) w3 (w3.setCell ⟨w.heap.size, 6, none⟩ (.slice a3 r.races.length c3)) := (Keep.refl _ _).setCell _ (by simp)
  have r4 := set_at (cs := rpC r (.slice va r.races.length vc)) H3.out.2.2 6 (.slice a3 r.races.length c3)
  have hS2 := H2.out.2.1.lt
  have hsz : w2.heap.size ≤ w3.heap.size := H3.out.2.1.size
  have h3s := H2.out.2.1.keep H3.out.2.1 hS2.1 hS2.2
  have hneS : S ≠ w.heap.size := by have := HL.out.1; omega
  have hneM : M ≠ w.heap.size := by have := HL.out.2; omega
  refine wp_world (fun w4 => Keep (fun k => k ≠ w.heap.size) w3 w4 ∧ StoreAt w4 S M (last + 1) m ∧ w4.heap[w.heap.size]? = some (.cells (rpC r (.slice a3 r.races.length c3)).toArray 26 (0, 0)))
    ⟨k4, h3s.keep k4 hneS hneM, r4⟩ ?_
  rintro w4 ⟨k5, h5, r5⟩
  have H4 := hid (And.intro k5 (And.intro h5 r5))
  have hi4 := rp_size r (.slice a3 r.races.length c3)
  clear k4 r4 hS2 hsz h3s k5 h5 r5 d6 e6
  refine wp_region_plan [true, true, true, true, true, true, true, true, true, false] (.free 0 (.free 1 (.free 2 (.free 3 (.free 4 (.free 5 (.free 6 (.free 7 (.free 8 (.last 9))))))))))
    (fun wx => wx.heap[S]? = some (.cells #[.map (some M), .int .i64 (last + 1)] 147 (0, 0)) ∧ wx.heap[w.heap.size]? = some (.cells (rpC r (.slice a3 r.races.length c3)).toArray 26 (0, 0))) (by kernel_rfl) (by kernel_rfl) ⟨H4.out.2.1.sto, H4.out.2.2⟩ ?_
  iterate 3 (refine plan_free rfl rfl (fun K hK => ?_); go_simp; refine hK _ ?_; clear hK K)
  refine plan_held (.map (some M)) rfl rfl (fun w0 h0 => by have q0 : w0.cell? ⟨S, 0, none⟩ = some (.map (some M)) := cell_at (cs := [_, _]) h0.1 0; clear h0; go_simp) (fun K hK => ?_); go_simp; refine hK _ ?_; clear hK K
  iterate 3 (refine plan_free rfl rfl (fun K hK => ?_); go_simp; refine hK _ ?_; clear hK K)
  refine plan_held (.int .i64 (last + 1)) rfl rfl (fun w0 h0 => by have q0 : w0.cell? ⟨S, 1, none⟩ = some (.int .i64 (last + 1)) := cell_at (cs := [_, _]) h0.1 1; clear h0; go_simp) (fun K hK => ?_); go_simp; refine hK _ ?_; clear hK K
  refine plan_load rfl rfl 26 (.tmp 3) rfl w.heap.size 0 rfl (rpC r (.slice a3 r.races.length c3)) _ (fun w0 h0 => range_whole h0.2) Tryd.underlying26 rfl hi4 (fun K hK => ?_); go_simp; refine hK _ ?_; clear hK K
  refine plan_last rfl rfl (fun K hK => ?_)
  refine wp_istore (.tmp 29) (.tmp 33) (.tmp 34) 107 26 rfl int_keys Tryd.underlying107 M m rfl (H4.out.2.1.map.keep (Keep.refl (fun _ => True) _).drew trivial) (by have := H8.out.1; unfold maxLen; omega) (last + 1) rfl (key_ok (key_small (by omega) (by omega))) (repV r (.slice a3 r.races.length c3)) rfl ?_
  intro w5 hm5 hg5
  refine hK _ _ ?_; clear hK K
  have k5 : Keep (fun k => k < w4.heap.size ∧ k ≠ M) w4 w5 := (Keep.refl _ _).drew.trans ((Keep.refl _ _).grown hg5 (fun k hk => ⟨hk.1, fun e => hk.2 (by injection e)⟩))
  have s5 := (k5.block S ⟨H4.out.2.1.lt.1, H4.out.2.1.ne⟩).trans H4.out.2.1.sto
  have c5 : w5.cell? ⟨S, 1, none⟩ = some (.int .i64 (last + 1)) := cell_at (cs := [_, _]) s5 1
  have H5 := hid (And.intro hm5 (And.intro k5 s5))
  clear hm5 hg5 k5 s5
  go_wp2_with fail
  go_ret2
  have z1 := K1.out.size
  have z2 := H2.out.1.size
  have z3 := H3.out.2.1.size
  have z4 := H4.out.1.size
  have hl1 := HL.out.1
  have hl2 := HL.out.2
  refine ⟨_, rfl, ⟨H5.out.2.2, H5.out.1, H4.out.2.1.ne⟩, ?_, ?_⟩
  · refine (((H3.out.1.at_.lt.keep (q := fun k => k ≠ w.heap.size) H4.out.1 (fun b hb => ?_)).lt.keep (q := fun k => k < w4.heap.size ∧ k ≠ M) H5.out.2.1 (fun b hb => ?_))).mono (fun b hb => ?_)
    · have := (H3.out.1.lt hb.2).1
      have := H2.out.2.2.2
      omega
    · have := (H3.out.1.lt hb.2.2).1
      exact ⟨hb.1, by omega⟩
    · have := (H3.out.1.lt hb.2.2).1
      omega
  · exact (((K1.out.mono (fun k (h : k < w.heap.size ∧ k ≠ S ∧ k ≠ M) => h.1)).trans (H2.out.1.mono (fun k h => h.2.1))).trans (H3.out.2.1.mono (fun k h => by omega))).trans ((H4.out.1.mono (fun k h => by omega)).trans (H5.out.2.1.mono (fun k h => ⟨by omega, h.2.2⟩)))

set_option maxRecDepth 100000 in
set_option maxHeartbeats 2000000 in
theorem sget_walk (S M : Nat) (last : Int) (m : Tab) (f : Int → Option Rp.Rep) (key : Int) (ev : Value) (w : World) (p : Nat → Prop) (h : StoreAt w S M last m) (hE : EntsAt w p m f) (hlen : ∀ k r, f k = some r → r.races.length ≤ 1000000) (hkw : (Lit.int .i64 key).wf = true) (he : w.cell? ⟨9, 0, none⟩ = some ev) (hl : 9 < w.heap.size) :
    Calls Tryd.prog 55 #[.pointer (some ⟨S, 0, none⟩), .int .i64 key] w fun e w' => ∃ v, e = .returned (.tuple #[repV ((f key).getD noRep) v, if (f key).isSome then .nilIface else ev]) ∧ RacesAt w' (fun _ => True) v ((f key).getD noRep).races ∧ Keep (· < w.heap.size) w w' := by
  have HH := hid h
  have HK := hid (key_ok hkw)
  have c0 : w.cell? ⟨S, 0, none⟩ = some (.map (some M)) := cell_at (cs := [_, _]) h.sto 0
  obtain ⟨ra, rc, hv, hs, hr⟩ := hE.val key
  have hrl : ((f key).getD noRep).races.length ≤ 1000000 := by
    cases hf : f key with
    | none => simp [noRep]
    | some r => exact hlen key r hf
  have hnone : f key = none → (f key).getD noRep = noRep := fun h => by rw [h]; rfl
  obtain ⟨r, hrr⟩ : ∃ r, (f key).getD noRep = r := ⟨_, rfl⟩
  rw [hrr] at hv hr hrl hnone ⊢
  have hi := rp_size r (.slice ra r.races.length rc)
  have h1 := rp_one r ra r.races.length rc
  have hold : (rpC noRep (.slice none 0 0)).toArray.size = (rpC r (.slice ra r.races.length rc)).toArray.size := rfl
  obtain ⟨t, ht⟩ : ∃ t, (f key).isSome = t := ⟨_, rfl⟩
  rw [ht] at hs ⊢
  have hn2 : t = false → r = noRep := fun h => hnone (by rw [h] at ht; simpa using ht)
  have HN := hid hn2
  have HV := hid (And.intro hv (And.intro hs ht))
  have HE := hid (And.intro he hl)
  have HL := hid h.lt
  have c1 : (w.alloc (.cells #[.int .i64 0, .int .i64 0, .int .i64 0, .int .i64 0, .int .i64 0, .int .i64 0, .slice none 0 0] 26)).cell? ⟨S, 0, none⟩ = some (.map (some M)) := (((Keep.refl (· < w.heap.size) w).alloc _ (fun _ h => h)).cell (x := ⟨S, 0, none⟩) h.lt.1).trans c0
  have HR := hid (And.intro (hr.lt.mono (q := fun b => b < w.heap.size) (fun _ h => h.1)) hrl)
  clear h hkw hE hr hrr hv hs ht he hl hrl hnone hn2 hlen
  go_enter Tryd.func55, Tryd.ntmps55
  go_upto_region 2 with (first
    | (at_lookup; refine wpList_ilook_ok rfl (.tmp 12) (.tmp 13) 107 26 rfl int_keys Tryd.underlying107 M m rfl (HH.out.map.keep (p := (· < w.heap.size)) ((Keep.refl _ _).alloc _ (fun _ h => h)) HL.out.2) key rfl HK.out _ (rep_zero _) ?_; rw [HV.out.1, HV.out.2.1]; unfold repV)
    | (refine wpList_store_row rfl 26 (.tmp 6) (.tmp 15) rfl (w.heap.size + 1) (rpC r (.slice ra r.races.length rc)).toArray rfl rfl 26 _ (heap_alloc2_new w _ _) hi hold h1 ?_))
  refine wp_world (fun w1 => Keep (· < w.heap.size) w w1 ∧ w1.heap[w.heap.size]? = some (.cells (rpC noRep (.slice none 0 0)).toArray 26 (0, 0)) ∧ w1.heap[w.heap.size + 1]? = some (.cells (rpC r (.slice ra r.races.length rc)).toArray 26 (0, 0)))
    ⟨(two_allocs w _ _).setRow _ (by omega), (((Keep.refl (fun k => k ≠ w.heap.size + 1) _).setRow _ (by simp)).block _ (by omega)).trans (two_heap w _ _), heap_setRow (heap_alloc2_new w _ _) _⟩ ?_
  rintro w1 ⟨k1, r1, r2⟩
  have H1 := hid (And.intro k1 (And.intro r1 r2))
  have ce : w1.cell? ⟨9, 0, none⟩ = some ev := (k1.cell (x := ⟨9, 0, none⟩) HE.out.2).trans HE.out.1
  have HRW := hid (HR.out.1.keep k1 (fun _ h => h))
  have d6 : w1.cell? ⟨w.heap.size + 1, 6, none⟩ = some (.slice ra r.races.length rc) := cell_at r2 6
  have hi0 := rp_size noRep (.slice none 0 0)
  have h10 := rp_one noRep none 0 0
  clear k1 r1 r2 c0 c1
  cases t with
  | false =>
    obtain rfl := HN.out (by simp)
    clear d6
    go_upto_region 3 with fail
    refine wp_region_plan [true, true, false, false] (.free 0 (.free 1 (.one 2 (.last 3)))) (fun wx => wx.cell? ⟨9, 0, none⟩ = some ev) (by kernel_rfl) (by kernel_rfl) ce ?_
    refine plan_free rfl rfl (fun K hK => ?_); go_simp; refine hK _ ?_; clear hK K
    refine plan_held ev rfl rfl (fun w0 h0 => by go_simp) (fun K hK => ?_); go_simp; refine hK _ ?_; clear hK K
    refine plan_one rfl rfl (fun K hK => ?_)
    refine wp_store_row 26 (.tmp 4) (.tmp 19) rfl w.heap.size (rpC noRep (.slice none 0 0)).toArray rfl rfl 26 _ (show w1.drew.heap[w.heap.size]? = _ from H1.out.2.1) hi0 rfl h10 ?_
    have k2 := (H1.out.1.drewN 1).setRow (b := w.heap.size) (rpC noRep (.slice none 0 0)).toArray (Nat.lt_irrefl _)
    have R2 := heap_setRow (show w1.drew.heap[w.heap.size]? = _ from H1.out.2.1) (rpC noRep (.slice none 0 0)).toArray
    refine hK _ _ ⟨(k2.cell (x := ⟨_, 0, none⟩) HE.out.2).trans HE.out.1, ?_⟩
    clear hK K
    have H2 := hid (And.intro k2 R2)
    clear k2 R2 ce
    refine plan_last rfl rfl (fun K hK => ?_); go_simp; refine hK _ _ ?_; clear hK K
    go_wp2_with fail
    refine bodyPost_ret (v := .tuple #[.agg (rpC noRep (.slice none 0 0)).toArray, ev]) (results_cell_row_tmp rfl _ _ w.heap.size 26 _ (0, 0) _ rfl H2.out.2 Tryd.underlying26 rfl hi0 _ rfl) rfl ?_
    exact ⟨_, by simp [repV], RacesAt.nil _ _, H2.out.1⟩
  | true =>
    go_wp2_with fail
    refine (clone_races _ r.races w1 _ HR.out.2 HRW.out).mono ?_
    rintro e w3 ⟨v, rfl, ho, k3⟩
    obtain ⟨a3, c3, rfl, _⟩ := ho.at_.form
    have r4 := (k3.block (w.heap.size + 1) (Array.getElem?_eq_some_iff.1 H1.out.2.2).1).trans H1.out.2.2
    have r3 := (k3.block w.heap.size (Array.getElem?_eq_some_iff.1 H1.out.2.1).1).trans H1.out.2.1
    have H3 := hid (And.intro ho (And.intro k3 (And.intro r3 r4)))
    have e6 : w3.cell? ⟨w.heap.size + 1, 6, none⟩ = some (.slice ra r.races.length rc) := cell_at r4 6
    have f6 := frozen_at r4 6
    clear ho k3 r3 r4 d6 ce
    go_upto_region 5 with fail
    have k4 : Keep (fun k => k ≠ w.heap.size + 1) w3 (w3.setCell ⟨w.heap.size + 1, 6, none⟩ (.slice a3 r.races.length c3)) := (Keep.refl _ _).setCell _ (by simp)
    have r5 := set_at (cs := rpC r (.slice ra r.races.length rc)) H3.out.2.2.2 6 (.slice a3 r.races.length c3)
    refine wp_world (fun w4 => Keep (fun k => k ≠ w.heap.size + 1) w3 w4 ∧ w4.heap[w.heap.size + 1]? = some (.cells (rpC r (.slice a3 r.races.length c3)).toArray 26 (0, 0)) ∧ w4.heap[w.heap.size]? = some (.cells (rpC noRep (.slice none 0 0)).toArray 26 (0, 0)))
      ⟨k4, r5, (k4.block _ (by omega)).trans H3.out.2.2.1⟩ ?_
    rintro w4 ⟨k5, r6, r7⟩
    have H4 := hid (And.intro k5 (And.intro r6 r7))
    have hi4 := rp_size r (.slice a3 r.races.length c3)
    have h14 := rp_one r a3 r.races.length c3
    have hold4 : (rpC noRep (.slice none 0 0)).toArray.size = (rpC r (.slice a3 r.races.length c3)).toArray.size := rfl
    clear k4 r5 k5 r6 r7 e6 f6
    go_wp2_with (first
      | (refine wpList_load_row rfl 26 (.tmp 6) rfl (w.heap.size + 1) rfl 26 _ (0, 0) _ H4.out.2.1 Tryd.underlying26 rfl hi4 ?_)
      | (refine wpList_store_row rfl 26 (.tmp 4) (.tmp 25) rfl w.heap.size (rpC r (.slice a3 r.races.length c3)).toArray rfl rfl 26 _ H4.out.2.2 hi4 hold4 h14 ?_))
    refine bodyPost_ret (v := .tuple #[.agg (rpC r (.slice a3 r.races.length c3)).toArray, .nilIface]) (results_cell_row_tmp rfl _ _ w.heap.size 26 _ (0, 0) _ rfl (heap_setRow H4.out.2.2 _) Tryd.underlying26 rfl hi4 _ rfl) rfl ?_
    have z1 := H1.out.1.size
    have z3 := H3.out.2.1.size
    have hb0 := (Array.getElem?_eq_some_iff.1 H1.out.2.2).1
    refine ⟨.slice a3 r.races.length c3, by simp [repV], ?_, ?_⟩
    · have h5 := H3.out.1.at_.lt.keep (q := fun k => k ≠ w.heap.size + 1 ∧ k ≠ w.heap.size) (w' := w4.setRow w.heap.size (rpC r (.slice a3 r.races.length c3)).toArray) ((H4.out.1.mono (fun k h => h.1)).setRow _ (by simp)) (fun b hb => by have := (H3.out.1.lt hb.2).1; omega)
      exact h5.mono (fun _ _ => trivial)
    · exact (((H1.out.1.trans (H3.out.2.1.mono (fun k h => by omega))).trans (H4.out.1.mono (fun k h => by omega)))).setRow _ (by simp)
end Go.Proofs.YtnpneippahdigaaDoor
