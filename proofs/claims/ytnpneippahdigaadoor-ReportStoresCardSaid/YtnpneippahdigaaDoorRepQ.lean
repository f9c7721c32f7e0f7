/-
  Step by step: 'Delete', 'Add', 'Get' of package report's store.
-/
import Derived.Test.YtnpneippahdigaaDoorRepO
namespace Go.Proofs.YtnpneippahdigaaDoor
open Go.RowKit Go.Maps Go.Proofs.Mem Go.Proofs.Txt Go.Proofs.Mp

set_option maxRecDepth 100000 in
set_option maxHeartbeats 1000000 in
theorem sdelete_walk (S M : Nat) (last : Int) (m : Tab) (f : Int → Option Rp.Rep) (key : Int) (ev : Value) (w : World) (p : Nat → Prop) (h : StoreAt w S M last m) (hE : EntsAt w p m f) (hkw : (Lit.int .i64 key).wf = true) (he : w.cell? ⟨9, 0, none⟩ = some ev) (hl : 9 < w.heap.size) :
    Calls Tryd.prog 53 #[.pointer (some ⟨S, 0, none⟩), .int .i64 key] w fun e w' => e = .returned (if (f key).isSome then .nilIface else ev) ∧ StoreAt w' S M last (mdel m key) ∧ Keep (fun k => k < w.heap.size ∧ k ≠ M) w w' := by
  have HH := hid h
  have HK := hid (key_ok hkw)
  have c0 : w.cell? ⟨S, 0, none⟩ = some (.map (some M)) := cell_at (cs := [_, _]) h.sto 0
  obtain ⟨ra, rc, hv, hs, hr⟩ := hE.val key
  obtain ⟨r, hrr⟩ : ∃ r, (f key).getD noRep = r := ⟨_, rfl⟩
  rw [hrr] at hv hr
  have hi := rp_size r (.slice ra r.races.length rc)
  have h1 := rp_one r ra r.races.length rc
  have hold : (rpC noRep (.slice none 0 0)).toArray.size = (rpC r (.slice ra r.races.length rc)).toArray.size := rfl
  obtain ⟨t, ht⟩ : ∃ t, (f key).isSome = t := ⟨_, rfl⟩
  rw [ht] at hs
  have HV := hid (And.intro hv (And.intro hs ht))
  have HE := hid (And.intro he hl)
  have HL := hid h.lt
  rw [ht]
  clear h hkw hE hr hrr hv hs ht he hl
  go_enter Tryd.func53, Tryd.ntmps53
  go_upto_region 2 with (first
    | (at_lookup; refine wpList_ilook_ok rfl (.tmp 11) (.tmp 12) 107 26 rfl int_keys Tryd.underlying107 M m rfl HH.out.map key rfl HK.out _ (rep_zero _) ?_; rw [HV.out.1, HV.out.2.1]; unfold repV)
    | (refine wpList_store_row rfl 26 (.tmp 5) (.tmp 14) rfl w.heap.size (rpC r (.slice ra r.races.length rc)).toArray rfl rfl 26 _ (heap_alloc_new w _) hi hold h1 ?_))
  refine wp_world (fun w1 => Keep (· < w.heap.size) w w1) (((Keep.refl _ _).alloc _ (fun _ h => h)).setRow _ (by simp)) ?_
  rintro w1 k1
  have K1 := hid k1
  have H1 := hid (HH.out.keep k1 HL.out.1 HL.out.2)
  have c1 : w1.cell? ⟨S, 0, none⟩ = some (.map (some M)) := cell_at (cs := [_, _]) H1.out.sto 0
  have ce : w1.cell? ⟨9, 0, none⟩ = some ev := (k1.cell (x := ⟨9, 0, none⟩) HE.out.2).trans HE.out.1
  have hd : t = false → mdel m key = m := fun h0 => mdel_of_none (by have := HV.out.2.1; rw [h0] at this; simpa using this)
  have HD := hid hd
  clear k1 hi h1 hold c0 hd
  cases t with
  | true =>
    go_wp2_with (at_delete; refine wpList_idel rfl (.tmp 22) (.tmp 23) 107 26 rfl int_keys Tryd.underlying107 M m rfl H1.out.map key rfl HK.out ?_; intro w2 hm2 hg2; have H2 := hid (And.intro hm2 hg2); clear hm2 hg2)
    go_ret
    have k2 : Keep (fun k => k < w1.heap.size ∧ k ≠ M) w1 w2 := (Keep.refl _ _).grown H2.out.2 (fun k hk => ⟨hk.1, fun e => hk.2 (by injection e)⟩)
    refine ⟨by simp, ⟨(k2.block S ⟨Nat.lt_of_lt_of_le HL.out.1 K1.out.size, H1.out.ne⟩).trans H1.out.sto, H2.out.1, H1.out.ne⟩, (K1.out.mono (fun k h => h.1)).trans (k2.mono (fun k h => ⟨Nat.lt_of_lt_of_le h.1 K1.out.size, h.2⟩))⟩
  | false =>
    go_wp2_with fail
    go_ret
    rw [HD.out (by simp)]
    exact ⟨by simp, H1.out, K1.out.mono (fun k h => h.1)⟩

set_option maxRecDepth 100000 in
set_option maxHeartbeats 1000000 in
theorem sadd_bad (S : Nat) (r : Rp.Rep) (rv : Value) (q : Addr) (w : World) (p : Nat → Prop) (hr : RacesAt w p rv r.races) (he : w.cell? ⟨2, 0, none⟩ = some (.iface 217 (.pointer (some q)))) (hl : 2 < w.heap.size) (hok : Rp.ok r = false) :
    Calls Tryd.prog 51 #[.pointer (some ⟨S, 0, none⟩), .agg (rpC r rv).toArray] w fun e w' => e = .returned (.tuple #[.int .i64 0, .iface 217 (.pointer (some q))]) ∧ Keep (· < w.heap.size) w w' := by
  obtain ⟨va, vc, rfl, hc1, hc2⟩ := hr.form
  have hi := rp_size r (.slice va r.races.length vc)
  have K0 := hid (show Keep (· < w.heap.size) w (w.alloc (.cells (rpC r (.slice va r.races.length vc)).toArray 26)) from (Keep.refl _ _).alloc _ (fun _ h => h))
  have CK := hid (check_walk r (.slice va r.races.length vc) _ (w.alloc (.cells (rpC r (.slice va r.races.length vc)).toArray 26)) _ (hr.lt.keep (q := fun b => b < w.heap.size) K0.out (fun _ h => h.1)) ((K0.out.cell (x := ⟨2, 0, none⟩) hl).trans he) (Nat.lt_of_lt_of_le hl K0.out.size))
  rw [hok] at CK
  clear hr he hl hok
  go_enter Tryd.func51, Tryd.ntmps51
  go_wp2_with (refine wpList_load_row rfl 26 (.tmp 3) rfl w.heap.size rfl 26 _ (0, 0) _ (heap_alloc_new w _) Tryd.underlying26 rfl hi ?_)
  refine CK.out.mono ?_
  rintro e w1 ⟨he1, k1⟩
  simp only [Bool.false_eq_true, if_false] at he1
  subst he1
  have K1 := hid (K0.out.trans (k1.mono (fun b h => Nat.lt_of_lt_of_le h K0.out.size)))
  clear k1
  go_wp2_with fail
  go_ret2
  exact ⟨rfl, K1.out⟩

set_option maxRecDepth 100000 in
set_option maxHeartbeats 1000000 in
theorem sadd_full (S M : Nat) (last : Int) (m : Tab) (r : Rp.Rep) (rv : Value) (ec ev : Value) (w : World) (p : Nat → Prop) (h : StoreAt w S M last m) (hr : RacesAt w p rv r.races) (he : w.cell? ⟨2, 0, none⟩ = some ec) (hl : 2 < w.heap.size) (hf : w.cell? ⟨8, 0, none⟩ = some ev) (hfl : 8 < w.heap.size) (hok : Rp.ok r = true) (h8 : 8 ≤ m.length) :
    Calls Tryd.prog 51 #[.pointer (some ⟨S, 0, none⟩), .agg (rpC r rv).toArray] w fun e w' => e = .returned (.tuple #[.int .i64 0, ev]) ∧ Keep (· < w.heap.size) w w' := by
  obtain ⟨va, vc, rfl, hc1, hc2⟩ := hr.form
  have hi := rp_size r (.slice va r.races.length vc)
  have K0 := hid (show Keep (· < w.heap.size) w (w.alloc (.cells (rpC r (.slice va r.races.length vc)).toArray 26)) from (Keep.refl _ _).alloc _ (fun _ h => h))
  have CK := hid (check_walk r (.slice va r.races.length vc) _ (w.alloc (.cells (rpC r (.slice va r.races.length vc)).toArray 26)) _ (hr.lt.keep (q := fun b => b < w.heap.size) K0.out (fun _ h => h.1)) ((K0.out.cell (x := ⟨2, 0, none⟩) hl).trans he) (Nat.lt_of_lt_of_le hl K0.out.size))
  rw [hok] at CK
  have HH := hid h
  have HL := hid h.lt
  have HF := hid (And.intro hf hfl)
  have H8 := hid h8
  clear hr he hl hok h hf hfl h8
  go_enter Tryd.func51, Tryd.ntmps51
  go_wp2_with (refine wpList_load_row rfl 26 (.tmp 3) rfl w.heap.size rfl 26 _ (0, 0) _ (heap_alloc_new w _) Tryd.underlying26 rfl hi ?_)
  refine CK.out.mono ?_
  rintro e w1 ⟨he1, k1⟩
  simp only [if_true] at he1
  subst he1
  have K1 := hid (K0.out.trans (k1.mono (fun b h => Nat.lt_of_lt_of_le h K0.out.size)))
  clear k1
  go_wp2_with fail
  refine (sfull_walk S M last m true w1 (HH.out.keep K1.out HL.out.1 HL.out.2) (by simpa using H8.out)).mono ?_
  rintro e w2 ⟨rfl, rfl⟩
  go_upto_region 5 with fail
  have ce : w1.cell? ⟨8, 0, none⟩ = some ev := (K1.out.cell (x := ⟨8, 0, none⟩) HF.out.2).trans HF.out.1
  refine wp_region_plan [true, false, false] (.free 0 (.one 1 (.last 2))) (fun wx => wx.cell? ⟨8, 0, none⟩ = some ev) (by kernel_rfl) (by kernel_rfl) ce ?_
  refine plan_held ev rfl rfl (fun w0 h0 => by go_simp) (fun K hK => ?_); go_simp; refine hK _ ?_; clear hK K
  refine plan_one rfl rfl (fun K hK => ?_); go_simp; refine hK _ _ ⟨ce, ?_⟩; clear hK K
  refine plan_last rfl rfl (fun K hK => ?_); go_simp; refine hK _ _ ?_; clear hK K ce
  go_wp2_with fail
  go_ret2
  exact ⟨rfl, K1.out.drew⟩
end Go.Proofs.YtnpneippahdigaaDoor
