/-
  Step by step: ReportCuts.
-/
import Derived.Test.YtnpneippahdigaaDoorRepE
namespace Go.Proofs.YtnpneippahdigaaDoor
open Go.RowKit Go.Proofs.Mem Go.Proofs.Txt

theorem i64_wf' {n : Int} (h : (Lit.int .i64 n).wf = true) : -9223372036854775808 ≤ n ∧ n ≤ 9223372036854775807 := by
  simp [Lit.wf, IntKind.min, IntKind.max, IntKind.signed, IntKind.bits] at h
  omega
theorem u8_wf' {n : Int} (h : (Lit.int .u8 n).wf = true) : 0 ≤ n ∧ n < 256 := by
  simp [Lit.wf, IntKind.min, IntKind.max, IntKind.signed, IntKind.bits] at h
  omega

set_option maxRecDepth 100000 in
set_option maxHeartbeats 4000000 in
theorem reportCuts_walk (r : Rp.Rep) (rv : Value) (cut : Int) (more : Int) (es : List Addr) (w : World) (hcw : (Lit.int .i64 cut).wf = true) (hmw : (Lit.int .u8 more).wf = true) (hes : ErrsAt w errGs es) (hnd : es.Nodup) (hr : RacesAt w (fun _ => True) rv r.races) :
    Calls Tryd.prog 5 #[.agg (rpC r rv).toArray, .int .i64 cut, .int .u8 more] w fun e w' => e = .returned (.bool true) ∧ Keep (· < w.heap.size) w w' := by
  obtain ⟨q, hq, hqc, hql⟩ := ev_at hes 8 2 rfl
  have HES := hid hes
  have HND := hid hnd
  have HQ := hid hq
  have HQC := hid hqc
  have HR := hid (hr.lt.mono (q := fun b => b < w.heap.size) (fun _ h => h.1))
  obtain ⟨va, vc, rfl, hc1, hc2⟩ := hr.form
  obtain ⟨N, hN⟩ : ∃ N, r.races.length = N := ⟨_, rfl⟩
  have HN := hid hN
  rw [hN] at hc1 HR ⊢
  have rs := rp_size r (.slice va N vc)
  have NUM := hid (show ∀ w0 : World, Keep (· < w.heap.size) w w0 → Calls Tryd.prog 19 #[.iface 217 (.pointer (some q))] w0 fun e w' => e = .returned (.int .i64 9) ∧ Keep (· < w0.heap.size) w0 w' from fun w0 k0 => num_at es 8 q w0 (HES.out.keep k0 (fun _ h => h)) HND.out HQ.out)
  have CODE := hid (show ∀ w0 : World, Keep (· < w.heap.size) w w0 → w0.cell? ⟨2, 0, none⟩ = some (.iface 217 (.pointer (some q))) ∧ 2 < w0.heap.size from fun w0 k0 => ⟨(k0.cell (x := ⟨2, 0, none⟩) hql).trans HQC.out, Nat.lt_of_lt_of_le hql k0.size⟩)
  have HCW := hid (i64_wf' hcw)
  obtain ⟨y, rfl⟩ : ∃ y : Nat, more = (y : Int) := ⟨more.toNat, by have := u8_wf' hmw; omega⟩
  have HY := hid (show y < 256 by have := u8_wf' hmw; omega)
  clear hes hnd hq hqc hr hN hcw hmw hql
  go_enter Tryd.func5, Tryd.ntmps5
  have K0 := hid (show Keep (· < w.heap.size) w (w.alloc (.cells (rpC r (.slice va N vc)).toArray 26)) from (Keep.refl _ _).alloc _ (fun _ h => h))
  have R0 := hid (heap_alloc_new w (.cells (rpC r (.slice va N vc)).toArray 26))
  have z0 := hid (show w.heap.size < (w.alloc (.cells (rpC r (.slice va N vc)).toArray 26)).heap.size by simp)
  go_wp2_with fail
  refine (alive20_walk _ _ (CODE.out _ K0.out).1 (CODE.out _ K0.out).2).mono ?_
  rintro e w1 ⟨rfl, k1⟩
  have R1 := (k1.block _ z0.out).trans R0.out
  have RR := hid (range_whole R1)
  have c6 : w1.cell? ⟨w.heap.size, 6, none⟩ = some (.slice va N vc) := cell_at R1 6
  have K1 := hid (K0.out.trans (k1.mono (fun b h => Nat.lt_of_lt_of_le h K0.out.size)))
  clear k1 R1 R0 z0
  by_cases hbig : 1000 < N
  · have t1 : decide ((1000 : Int) < (N : Int)) = true := by simp; omega
    clear hbig
    go_wp2_with fail
    go_ret
    exact ⟨rfl, K1.out⟩
  · have t1 : decide ((1000 : Int) < (N : Int)) = false := by simp; omega
    clear hbig
    by_cases hok : Rp.ok r = true
    case neg =>
      have hno : Rp.ok r = false := by simpa using hok
      have BAD := hid (rput_bad r (.slice va N vc) q w1 _ (HR.out.keep K1.out (fun _ h => h)) (CODE.out _ K1.out).1 (CODE.out _ K1.out).2 hno)
      clear hok hno
      go_wp2_with (refine wpList_load_mid rfl 26 (.tmp 3) rfl w.heap.size 0 rfl (rpC r (.slice va N vc)) _ RR.out Tryd.underlying26 rfl rs ?_)
      refine BAD.out.mono ?_
      rintro e w2 ⟨rfl, k2⟩
      have K2 := hid (K1.out.trans (k2.mono (fun b h => Nat.lt_of_lt_of_le h K1.out.size)))
      clear k2
      go_wp2_with fail
      refine (NUM.out _ K2.out).mono ?_
      rintro e w3 ⟨rfl, k3⟩
      have K3 := hid (K2.out.trans (k3.mono (fun b h => Nat.lt_of_lt_of_le h K2.out.size)))
      clear k3
      go_wp2_with fail
      go_ret
      exact ⟨rfl, K3.out⟩
    case pos =>
      have hN128 : N ≤ 128 := by
        have h := hok
        simp only [Rp.ok, Rp.headOk, Bool.and_eq_true, decide_eq_true_eq] at h
        rw [← HN.out]; exact h.1.2
      have GOOD := hid (rput_good r (.slice va N vc) _ w1 _ (HR.out.keep K1.out (fun _ h => h)) (CODE.out _ K1.out).1 (CODE.out _ K1.out).2 hok)
      clear hok
      go_wp2_with (refine wpList_load_mid rfl 26 (.tmp 3) rfl w.heap.size 0 rfl (rpC r (.slice va N vc)) _ RR.out Tryd.underlying26 rfl rs ?_)
      refine GOOD.out.mono ?_
      rintro e w2 ⟨b, rfl, g⟩
      have K2 := hid (K1.out.trans (g.low.mono (fun b h => Nat.lt_of_lt_of_le h K1.out.size)))
      have hbl : (Rp.bytes r).length = 21 + 11 * N := by rw [Rp.bytes_length, HN.out]
      have HC := hid (show Cells w2 (fun k => b.ownBlock = some k) b (ints .u8 (Rp.bytes r)) from g.row.cells)
      have HU := hid (show ∀ k, b.ownBlock = some k → w.heap.size ≤ k ∧ k < w2.heap.size from fun k hk => ⟨Nat.le_trans K1.out.size ((g.own k hk).elim (fun h => by simp [Value.ownBlock] at h) id), g.row.lt hk⟩)
      obtain ⟨blk, off, c, rfl, hnc, hcm, hpb, hcell⟩ := HC.out.open_ (by omega)
      have HCELL := hid hcell
      have HPB := hid hpb
      have HBL := hid hbl
      rw [hbl] at HC HU HPB hnc ⊢
      obtain ⟨L, hL⟩ : ∃ L, 21 + 11 * N = L := ⟨_, rfl⟩
      have HL := hid hL
      have hL0 : 0 < L := by omega
      have hL1 : L ≤ 1429 := by omega
      rw [hL] at HC HU HPB hnc ⊢
      clear hcell hpb hbl hL g GOOD rs RR c6
      have eu := u64_wrap cut
      obtain ⟨x, hx⟩ : ∃ x, Wr.u64 cut = x := ⟨_, rfl⟩
      rw [hx] at eu
      clear hx
      obtain ⟨m, hm⟩ : ∃ m : Nat, x % L = m := ⟨_, rfl⟩
      have hmL : m < L := by rw [← hm]; exact Nat.mod_lt _ hL0
      have hm' : (x : Int) % (L : Int) = (m : Int) := by omega
      have hm2 : (x : Int).tmod (L : Int) = (m : Int) := by rw [Int.tmod_eq_emod_of_nonneg (by omega)]; exact hm'
      have hmc : (m : Int) ≤ (c : Int) := by omega
      have hL2 : ((L : Int) == 0) = false := by simp; omega
      clear hm
      go_wp2_with fail
      have hi := rp_size noRep (.slice none 0 0)
      have h1 := rp_one noRep none 0 0
      have HX := hid (bytes_lt r)
      have HCT := hid (show cntOf (Rp.bytes r) = N ∧ ∀ z, cntOf (Rp.bytes r ++ z) = N from ⟨by have := cnt_bytes r [] (by rw [HN.out]; omega); rwa [List.append_nil, HN.out] at this, fun z => by rw [cnt_bytes r z (by rw [HN.out]; omega), HN.out]⟩)
      have GET1 := hid (rpget_short (.slice (some ⟨blk, off, none⟩) m c) ((Rp.bytes r).take m) q w2 (fun _ => True) (fun z hz => HX.out z (List.mem_of_mem_take hz))
        (by
          have h8 := cells_sub (w := w2) (p := fun _ => True) (blk := blk) (off := off) (cs := ints .u8 (Rp.bytes r)) trivial HCELL.out 0 m c (by rw [ints_length, HBL.out, HL.out]; omega) (by omega) (by omega)
          rw [ints_drop, ints_take] at h8
          exact h8)
        (by
          rw [List.length_take, HBL.out, HL.out, Nat.min_eq_left (by omega)]
          by_cases h21 : m < 21
          · exact .inl h21
          · refine .inr ?_
            rw [cnt_take _ _ (by omega), HCT.out.1, HL.out]
            omega) (CODE.out _ K2.out).1 (CODE.out _ K2.out).2)
      refine GET1.out.mono ?_
      rintro e w3 ⟨rfl, k3⟩
      have K3 := hid (K2.out.trans (k3.mono (fun b h => Nat.lt_of_lt_of_le h K2.out.size)))
      have HC3 := hid ((HC.out.lt.keep (q := fun k => k < w2.heap.size) k3 (fun _ h => h.1)))
      clear k3 GET1 eu hm2 hm' hmc hmL HCELL
      go_upto_region 9 with (refine wpList_store_row rfl 26 (.tmp 9) (.tmp 40) rfl w3.heap.size (rpC noRep (.slice none 0 0)).toArray rfl rfl 26 _ (heap_alloc_new w3 _) hi rfl h1 ?_)
      refine wp_world (fun w4 => Keep (· < w3.heap.size) w3 w4) (((Keep.refl _ _).alloc _ (fun _ h => h)).setRow _ (by simp)) ?_
      rintro w4 k4
      have K4 := hid (K3.out.trans (k4.mono (fun b h => Nat.lt_of_lt_of_le h K3.out.size)))
      have HC4 := hid ((HC3.out.lt.keep (q := fun k => k < w3.heap.size) k4 (fun _ h => h.1)).mono (q := fun k => k < w4.heap.size) (fun k h => Nat.lt_of_lt_of_le h.1 k4.size))
      clear k4 HC3
      have GA := hid (Grow.refl (row_of_block (w := w4.alloc (.cells #[] 5)) (b := w4.heap.size) (E := 5) (cs := ints .u8 []) (heap_alloc_new w4 _) (by decide)))
      have HA := hid (GA.out.app 32 (.slice (some ⟨blk, off, none⟩) L c) (Rp.bytes r) (HC4.out.keep (q := fun k => k < w4.heap.size) ((Keep.refl _ _).alloc _ (fun _ h => h)) (fun _ h => h)) (by rw [HBL.out, HL.out]; simp only [List.length_nil]; omega))
      go_wp2_with (at_builtin; first | (refine wpList_app rfl (.tmp 43) (.tmp 44) 32 32 rfl _ HA.out ?_; rintro v5 w5 g5; have G5 := hid g5; clear g5; have HB := hid ((G5.out.next ((Keep.refl _ _).alloc (.cells (ints .u8 [y]).toArray 5) (fun _ h => h))).app 32 _ [y] (made_cells w5 5 (fun _ => True) (ints .u8 [y]) trivial (by simp [ints])) (by rw [List.nil_append, HBL.out, HL.out]; simp only [List.length_cons, List.length_nil]; omega))) | (refine wpList_app rfl (.tmp 45) (.tmp 47) 32 32 rfl _ HB.out ?_; rintro v6 w6 g6; have G6 := hid g6; clear g6))
      have K6 := hid (K4.out.trans ((((Keep.refl (· < w4.heap.size) w4).alloc (.cells #[] 5) (fun _ h => h)).trans (G6.out.keep.mono (fun b h => ⟨by simp; omega, fun he => by simp [Value.ownBlock] at he; omega⟩))).mono (fun b h => Nat.lt_of_lt_of_le h K4.out.size)))
      have GET2 := hid (rpget_short v6 (Rp.bytes r ++ [y]) q w6 _ (fun z hz => by
          rcases List.mem_append.1 hz with h | h
          · exact HX.out z h
          · rw [List.mem_singleton.1 h]; exact HY.out) (by simpa only [List.nil_append] using G6.out.row.cells)
        (by
          refine .inr ?_
          rw [HCT.out.2, List.length_append, HBL.out]
          simp) (CODE.out _ K6.out).1 (CODE.out _ K6.out).2)
      refine GET2.out.mono ?_
      rintro e w7 ⟨rfl, k7⟩
      have K7 := hid (K6.out.trans (k7.mono (fun b h => Nat.lt_of_lt_of_le h K6.out.size)))
      clear k7 GET2 HA HB GA G5 G6 HC4
      go_upto_region 10 with (refine wpList_store_row rfl 26 (.tmp 11) (.tmp 50) rfl w7.heap.size (rpC noRep (.slice none 0 0)).toArray rfl rfl 26 _ (heap_alloc_new w7 _) hi rfl h1 ?_)
      refine wp_world (fun w8 => Keep (· < w7.heap.size) w7 w8) (((Keep.refl _ _).alloc _ (fun _ h => h)).setRow _ (by simp)) ?_
      rintro w8 k8
      have K8 := hid (K7.out.trans (k8.mono (fun b h => Nat.lt_of_lt_of_le h K7.out.size)))
      clear k8
      go_wp2_with fail
      refine (NUM.out _ K8.out).mono ?_
      rintro e w9 ⟨rfl, k9⟩
      have K9 := hid (K8.out.trans (k9.mono (fun b h => Nat.lt_of_lt_of_le h K8.out.size)))
      clear k9
      go_wp2_with fail
      refine (NUM.out _ K9.out).mono ?_
      rintro e wa ⟨rfl, ka⟩
      have KA := hid (K9.out.trans (ka.mono (fun b h => Nat.lt_of_lt_of_le h K9.out.size)))
      clear ka
      go_wp2_with fail
      go_ret
      exact ⟨rfl, KA.out⟩
end Go.Proofs.YtnpneippahdigaaDoor
