/-
  Step by step: order.Races.
-/
import Derived.Test.YtalihehmbiohlaaDoorOrdO
namespace Go.Proofs.YtalihehmbiohlaaDoor
open Go.RowKit Go.Maps Go.Proofs.Mem Go.Proofs.Txt Go.Proofs.Ord Go.Proofs.Mp

theorem acc_wr (e : Ev) (h : e.kd ≠ 1) : e.acc = e.wr := by simp [Ev.acc, Ev.wr, h]

set_option maxRecDepth 100000 in
theorem races_bad (l : List Ev) (v rv ev : Value) (w : World) (p : Nat → Prop) (hv : EvsAt w p v l) (he : w.cell? ⟨0, 0, none⟩ = some ev) (hl : 0 < w.heap.size) (hno : l.all Ev.ok = false) (hev : ∃ t a, ev = .iface t a) :
    Calls Tryd.prog 10 #[v, rv] w fun e w' => e = .returned (.tuple #[.slice none 0 0, ev]) ∧ Keep (· < w.heap.size) w w' := by
  have HC := hid (clocks_bad l v rv ev w p hv he hl hno hev)
  clear hv he hl hno
  obtain ⟨t, i, rfl⟩ := hev
  go_enter Tryd.func10, Tryd.ntmps10
  go_wp2_with fail
  refine HC.out.mono ?_
  rintro e w1 ⟨rfl, k1⟩
  have K1 := hid k1
  clear k1
  go_wp2_with fail
  go_ret2
  exact ⟨rfl, K1.out⟩

set_option maxRecDepth 1000000 in
set_option maxHeartbeats 8000000 in
theorem races_walk (rooms : List Int) (l : List Ev) (v rv ev : Value) (w : World) (p q : Nat → Prop) (hv : EvsAt w p v l) (hr : Cells w q rv (rooms.map (Value.int .i64))) (he : w.cell? ⟨0, 0, none⟩ = some ev) (hl : 0 < w.heap.size)
    (hok : l.all Ev.ok = true) (hwf : ∀ e ∈ l, (Lit.int .i64 e.obj).wf = true) (hlen : l.length ≤ 200) (hrw : ∀ r ∈ rooms, r ≤ 9223372036854775807) :
    Calls Tryd.prog 10 #[v, rv] w fun e w' => ∃ out, e = .returned (.tuple #[out, .nilIface]) ∧ OwnS w.heap.size w' 56 5 out ((racesP rooms l).map rcC) ∧ Keep (· < w.heap.size) w w' := by
  have HC := hid (clocks_good rooms l v rv ev w p q hv hr he hl hok hwf hlen hrw)
  have HV := hid (hv.lt.mono (q := fun b => b < w.heap.size) (fun _ h => h.1))
  obtain ⟨va, vc, rfl, hc1, hc2⟩ := hv.form
  have HOK := hid (List.all_eq_true.1 hok)
  have HWF := hid hwf
  have HLN := hid hlen
  clear hv hr he hl hok hwf hrw hlen
  go_enter Tryd.func10, Tryd.ntmps10
  go_wp2_with fail
  refine HC.out.mono ?_
  rintro e w1 ⟨out, rfl, hcl, k1⟩
  have HCL := hid hcl
  have K1 := hid k1
  obtain ⟨ca, cc, rfl, _, _⟩ := hcl.form
  clear hcl k1
  have hmm := @run_makeMap Tryd.prog
  go_wp2_with fail
  clear hmm
  obtain ⟨B, hB⟩ : ∃ B, w1.heap.size = B := ⟨_, rfl⟩
  obtain ⟨M2, hM2⟩ : ∃ x, B + 1 = x := ⟨_, rfl⟩
  have hwB : w.heap.size ≤ B := by rw [← hB]; exact K1.out.size
  rw [hB, hM2]
  refine wp_world (fun w2 => Keep (· < B) w1 w2 ∧ IMap Tryd.prog 3 w2 B [] ∧ IMap Tryd.prog 3 w2 M2 [] ∧ B ≤ w2.heap.size) ?_ ?_
  · subst hM2 hB
    have z1 : (w1.alloc (.map #[] 0)).heap.size = w1.heap.size + 1 := by simp
    have a1 := IMap.made Tryd.prog 3 w1
    have a2 := IMap.made Tryd.prog 3 (w1.alloc (.map #[] 0))
    rw [z1] at a2
    have k01 : Keep (· < w1.heap.size) w1 (w1.alloc (.map #[] 0)) := (Keep.refl _ _).alloc _ (fun _ h => h)
    have k12 : Keep (· < w1.heap.size + 1) (w1.alloc (.map #[] 0)) ((w1.alloc (.map #[] 0)).alloc (.map #[] 0)) := (Keep.refl _ _).alloc _ (fun _ h => by rw [z1]; exact h)
    exact ⟨k01.trans (k12.mono (fun b hb => by omega)), a1.keep k12 (by omega), a2, by simp; omega⟩
  rintro w2 ⟨k2, i1, i2, z2⟩
  have HS := hid (And.intro (SeenAt.start (B := B) l i1) (And.intro i2 (And.intro k2 z2)))
  have HCB := hid (show ∀ b, w.heap.size ≤ b ∧ b < w1.heap.size → b < B from fun b hb => by omega)
  have HCC := hid (HCL.out.lt.mono (q := fun b => b < B) (fun b hb => HCB.out b ⟨hb.2, hb.1⟩))
  have HVV := hid ((HV.out.keep K1.out (fun b hb => hb)).mono (q := fun b => b < B) (fun b hb => Nat.lt_of_lt_of_le hb hwB))
  have hBM : B ≤ M2 ∧ B ≠ M2 := by omega
  clear k2 i1 i2 z2 hB hM2
  go_loopg [35] l.length (fun k s35 wr => ∃ (i : Nat) (t : Tab), i + k = l.length ∧ s35 = .int .i64 (i : Int) ∧ SeenAt B wr B l i t ∧ IMap Tryd.prog 3 wr M2 (tabR (foundL rooms l i)) ∧ Keep (· < B) w1 wr ∧ B ≤ wr.heap.size)
  case atStart => exact ⟨0, [], by omega, rfl, HS.out.1, HS.out.2.1, HS.out.2.2⟩
  case round =>
    obtain ⟨i, t, hik, rfl, hs, hf, hk, hz⟩ := hrel
    have HR := hid (And.intro hs (And.intro hf (And.intro hk hz)))
    clear hs hf hk hz HS
    by_cases hlt : i < l.length
    · have l0 : (i : Int) < (l.length : Int) := by omega
      obtain ⟨x, hx⟩ : ∃ x, evAt l i = x := ⟨_, rfl⟩
      obtain ⟨blk, off, hva, hblk, hrg⟩ := HVV.out.get i hlt
      rw [← evAt_get l i hlt, hx] at hrg
      subst hva
      have RG := hid (show wr.rangeAt blk (off + i * 4) (evC x) from fun j v hv => (HR.out.2.2.1.cell (x := ⟨blk, off + i * 4 + j, none⟩) hblk).trans (hrg j v hv))
      have hxm : x ∈ l := by rw [← hx, evAt_get l i hlt]; exact List.getElem_mem _
      have HX := hid (And.intro hx hxm)
      have HI := hid (And.intro hik hlt)
      have osz := ev_size x
      have o1 : (evC x).toArray.all (·.oneCell') = true := by simp [evC, Value.oneCell']
      have hz := HR.out.2.2.2
      clear hrg hx hxm hik hlt hblk
      go_upto_region 9 with (first
        | (refine wpList_load_mid rfl 25 (.tmp 38) rfl blk (off + i * 4) rfl (evC x) _ RG.out Tryd.underlying25 rfl osz ?_)
        | (refine wpList_store_row rfl 25 (.tmp 11) (.tmp 39) rfl wr.heap.size (evC x).toArray rfl rfl 25 _ (heap_alloc_new wr _) (by rw [List.size_toArray]; exact osz) rfl o1 ?_))
      obtain ⟨E, hE⟩ : ∃ E, wr.heap.size = E := ⟨_, rfl⟩
      refine wp_world (fun wa => Keep (· < wr.heap.size) wr wa ∧ wa.heap[wr.heap.size]? = some (.cells (evC x).toArray 25 (0, 0)))
        ⟨((Keep.refl _ _).alloc _ (fun _ h => h)).setRow _ (by simp), heap_setRow (heap_alloc_new wr _) _⟩ ?_
      rintro wa ⟨ka, ra2⟩
      have HKA := hid ka
      have HEA := hid ra2
      rw [hE] at HEA ⊢
      obtain ⟨g2, d2, ob, a2⟩ := x
      have e0 : wa.cell? ⟨E, 0, none⟩ = some (.int .i64 g2) := cell_at HEA.out 0
      have e1 : wa.cell? ⟨E, 1, none⟩ = some (.int .i64 d2) := cell_at HEA.out 1
      have e2 : wa.cell? ⟨E, 2, none⟩ = some (.int .i64 ob) := cell_at HEA.out 2
      have e3 : wa.cell? ⟨E, 3, none⟩ = some (.int .i64 a2) := cell_at HEA.out 3
      have HEE := hid hE
      clear ka ra2 hE
      go_upto_region 10 with (refine wpList_store_row rfl 60 (.tmp 12) (.tmp 42) rfl wa.heap.size (acC ⟨g2, d2, ob, a2⟩ i).toArray rfl rfl 60 _ (heap_alloc_new wa _) (by rw [List.size_toArray]; exact ac_size _ _) rfl (ac_one _ _) ?_)
      refine wp_world (fun wb => Keep (· < wa.heap.size) wa wb ∧ wb.heap[wa.heap.size]? = some (.cells (acC ⟨g2, d2, ob, a2⟩ i).toArray 60 (0, 0))) ⟨((Keep.refl _ _).alloc _ (fun _ h => h)).setRow _ (by simp), heap_setRow (heap_alloc_new wa _) _⟩ ?_
      rintro wb ⟨kb, rb⟩
      obtain ⟨A, hA⟩ : ∃ A, wa.heap.size = A := ⟨_, rfl⟩
      have HKB := hid kb
      have HAB := hid rb
      rw [hA] at HAB ⊢
      have HAA := hid hA
      have k2 := HKA.out.trans (kb.mono fun b hb => Nat.lt_of_lt_of_le hb HKA.out.size)
      have HK2 := hid k2
      have HEB := hid ((kb.block E (Array.getElem?_eq_some_iff.1 HEA.out).1).trans HEA.out)
      have HSB := hid (HR.out.1.next k2)
      have HFB := hid (HR.out.2.1.keep k2 HR.out.2.1.lt)
      have HZB := hid (Nat.le_trans hz k2.size)
      have HKB1 := hid (HR.out.2.2.1.trans (k2.mono fun b hb => Nat.lt_of_lt_of_le hb hz))
      clear kb rb hA k2 e0 e1 e2 e3
      have e1 : wb.cell? ⟨E, 1, none⟩ = some (.int .i64 d2) := cell_at HEB.out 1
      have a0 : wb.cell? ⟨A, 0, none⟩ = some (.int .i64 g2) := cell_at HAB.out 0
      have a1 : wb.cell? ⟨A, 1, none⟩ = some (.int .i64 d2) := cell_at HAB.out 1
      have a22 : wb.cell? ⟨A, 2, none⟩ = some (.int .i64 ob) := cell_at HAB.out 2
      have a3 : wb.cell? ⟨A, 3, none⟩ = some (.int .i64 a2) := cell_at HAB.out 3
      have a4 : wb.cell? ⟨A, 4, none⟩ = some (.int .i64 (i : Int)) := cell_at HAB.out 4
      rename_i KR aR KI aI
      have HREST := hid aR
      clear aR
      have HLAST := hid (show ∀ (wz : World), Keep (· < wb.heap.size) wb wz → (evAt l i).acc = true → wz.heap[E]? = some (.cells (evC (evAt l i)).toArray 25 (0, 0)) ∧ wz.heap[A]? = some (.cells (acC (evAt l i) i).toArray 60 (0, 0)) ∧ (∀ p b, ((mget t p).getD sv0).ownBlock = some b → b < E ∧ b < A) ∧ SeenAt B wz B l i t ∧ IMap Tryd.prog 3 wz M2 (tabR (foundL rooms l i)) ∧ B ≤ wz.heap.size ∧ Keep (· < B) w1 wz from fun wz kz _ =>
        ⟨by rw [HX.out.1]; exact (kz.block E (Array.getElem?_eq_some_iff.1 HEB.out).1).trans HEB.out, by rw [HX.out.1]; exact (kz.block A (Array.getElem?_eq_some_iff.1 HAB.out).1).trans HAB.out, fun p b hb => by have h1 := ((HR.out.1.row p).lt hb).2; have h2 := HEE.out; have h3 := HAA.out; have h4 := HKA.out.size; omega, HSB.out.next kz, HFB.out.keep kz HFB.out.lt, Nat.le_trans HZB.out kz.size, HKB1.out.trans (kz.mono fun b hb => Nat.lt_of_lt_of_le hb HZB.out)⟩)
      have hwf := hid (HWF.out _ HX.out.2)
      by_cases hd1 : d2 = 1
      · subst hd1
        go_wp2_with fail
        refine HREST.out _ _ ?_
        have hl := HLAST.out wb (Keep.refl _ _) (by rw [HX.out.1]; rfl)
        refine races_rest (HVV.out.keep hl.2.2.2.2.2.2 (fun _ h => h)) (HCC.out.keep hl.2.2.2.2.2.2 (fun _ h => h)) HOK.out (by rw [HX.out.1]; exact hwf.out) HI.out.2 HLN.out (by rw [HX.out.1]; rfl) hl.1 hl.2.1 hl.2.2.1 hl.2.2.2.1 hl.2.2.2.2.1 hBM.2 (Nat.le_refl _) hBM.1 hl.2.2.2.2.2.1 ?_
        iterate 84 (intro _)
        intro wx t' r1 r2 r3
        have H2 := hid (And.intro r1 (And.intro r2 (hl.2.2.2.2.2.2.trans r3)))
        clear r1 r2 r3 hl
        go_wp2_with fail
        go_roundg (gk - 1)
        case measure => have := HI.out; omega
        case rel => exact ⟨i + 1, t', by have := HI.out; omega, by go_num, H2.out.1, H2.out.2.1, H2.out.2.2, Nat.le_of_lt (Nat.lt_of_le_of_lt (Nat.le_refl _) H2.out.1.map.lt)⟩
      · have n1 : (d2 != 1) = true := by simp [hd1]
        cases hw : Ev.wr ⟨g2, d2, ob, a2⟩
        · have HAC := hid (show (evAt l i).acc = false by rw [HX.out.1, acc_wr _ hd1]; exact hw)
          have HW := hid hw
          clear hw hd1
          go_wp2_with fail
          refine (writes_walk ⟨g2, d2, ob, a2⟩ i _).mono ?_
          rintro e wc ⟨rfl, kc⟩
          rw [HW.out]
          have H2 := hid (And.intro ((HSB.out.next kc).other HAC.out) (And.intro (HFB.out.keep kc HFB.out.lt) (And.intro (HKB1.out.trans (kc.mono fun b hb => Nat.lt_of_lt_of_le hb HZB.out)) (Nat.le_trans HZB.out kc.size))))
          clear kc
          have HFE := hid (show foundL rooms l (i + 1) = foundL rooms l i by show (if _ then _ else _) = _; rw [HAC.out]; simp)
          go_wp2_with fail
          go_roundg (gk - 1)
          case measure => have := HI.out; omega
          case rel => exact ⟨i + 1, t, by have := HI.out; omega, by go_num, H2.out.1, by rw [HFE.out]; exact H2.out.2.1, H2.out.2.2⟩
        · have HAC := hid (show (evAt l i).acc = true by rw [HX.out.1, acc_wr _ hd1]; exact hw)
          have HW := hid hw
          clear hw hd1
          go_wp2_with fail
          refine (writes_walk ⟨g2, d2, ob, a2⟩ i _).mono ?_
          rintro e wc ⟨rfl, kc⟩
          rw [HW.out]
          have hl := HLAST.out wc kc HAC.out
          have HL := hid hl
          clear kc hl
          go_wp2_with fail
          refine HREST.out _ _ ?_
          have hl := HL.out
          refine races_rest (HVV.out.keep hl.2.2.2.2.2.2 (fun _ h => h)) (HCC.out.keep hl.2.2.2.2.2.2 (fun _ h => h)) HOK.out (by rw [HX.out.1]; exact hwf.out) HI.out.2 HLN.out HAC.out hl.1 hl.2.1 hl.2.2.1 hl.2.2.2.1 hl.2.2.2.2.1 hBM.2 (Nat.le_refl _) hBM.1 hl.2.2.2.2.2.1 ?_
          iterate 84 (intro _)
          intro wx t' r1 r2 r3
          have H2 := hid (And.intro r1 (And.intro r2 (hl.2.2.2.2.2.2.trans r3)))
          clear r1 r2 r3 hl
          go_wp2_with fail
          go_roundg (gk - 1)
          case measure => have := HI.out; omega
          case rel => exact ⟨i + 1, t', by have := HI.out; omega, by go_num, H2.out.1, H2.out.2.1, H2.out.2.2, Nat.le_of_lt (Nat.lt_of_le_of_lt (Nat.le_refl _) H2.out.1.map.lt)⟩
    · obtain rfl : l.length = i := by omega
      obtain ⟨rs, hrs⟩ : ∃ rs, racesP rooms l = rs := ⟨_, rfl⟩
      have HF := hid (show IMap Tryd.prog 3 wr M2 (tabR rs) from hrs ▸ HR.out.2.1)
      have hrl : rs.length ≤ l.length := by rw [← hrs]; exact found_length rooms l l.length
      have HRS := hid (And.intro hrs hrl)
      have HRI := hid (HF.out.rising int_keys)
      have hkeys : (tabR rs).map (·.1) = rs.map (·.pl) := by simp [tabR]
      have HKEY := hid hkeys
      have hKw := HR.out.2.2.1
      have HKW := hid ((K1.out).trans (hKw.mono fun b hb => Nat.lt_of_lt_of_le hb hwB))
      clear hlt hik hrs hrl hkeys hKw
      obtain ⟨wo, rfl⟩ : ∃ wo : World, wo = wr := ⟨_, rfl⟩
      go_wp2_with fail
      refine (keys_call M2 wo).mono ?_
      rintro e w3 ⟨rfl, rfl⟩
      go_wp2_with fail
      refine (sorted_call M2 (tabR rs) wo HF.out (by unfold tabR; rw [List.length_map]; have := HRS.out.2; have := HLN.out; omega)).mono ?_
      rintro e w4 ⟨kv, rfl, kr, ko, k4⟩
      rw [HKEY.out, List.map_map] at kr
      obtain ⟨ka, kc, rfl⟩ := kr.form
      rw [List.length_map] at kr ko ⊢
      have HKR := hid (And.intro kr (And.intro ko k4))
      clear kr ko k4
      go_wp2_with fail
      go_loopg [19, 135] rs.length (fun k s19 s135 wx => ∃ j : Nat, j + k = rs.length ∧ s135 = .int .i64 (j : Int) ∧ OwnS w4.heap.size wx 56 5 s19 ((rs.take j).map rcC) ∧ Keep (· < w4.heap.size) w4 wx)
      case atStart => exact ⟨0, by omega, rfl, OwnS.nil _ _ _ _, Keep.refl _ _⟩
      case round =>
        obtain ⟨j, hjk, rfl, hrow, hk5⟩ := hrel
        have H5 := hid (And.intro hrow (And.intro hk5 hjk))
        by_cases hlt : j < rs.length
        · have l5 : (j : Int) < (rs.length : Int) := by omega
          have l6 : j ≤ 200 := by have := HRS.out.2; have := HLN.out; omega
          obtain ⟨r, hr⟩ : ∃ r, rs[j]? = some r := ⟨_, List.getElem?_eq_getElem hlt⟩
          obtain ⟨kb, kcc, hke, _, _, hkl, hkc, _⟩ := HKR.out.1.blk (by rw [List.length_map]; omega)
          rw [List.length_map] at hke
          injection hke with e1 _ e3
          subst e1 e3
          have cK : wr.cell? ⟨kb, j, none⟩ = some (.int .i64 r.pl) := by
            rw [(hk5.cell (x := ⟨kb, j, none⟩) hkl), hkc j (by rw [List.length_map]; exact hlt), List.getElem?_map, hr]; rfl
          have hmem : (r.pl, rcV r) ∈ tabR rs := List.mem_map.2 ⟨r, List.mem_of_getElem? hr, rfl⟩
          have hkwf : (Lit.int .i64 r.pl).wf = true := by
            obtain ⟨i, h1, h2⟩ := found_pl rooms l l.length r (by rw [show foundL rooms l l.length = rs from HRS.out.1]; exact List.mem_of_getElem? hr)
            rw [h2, evAt_get l i h1]
            exact HWF.out _ (List.getElem_mem _)
          obtain ⟨pl, fi, se, fw, sw⟩ := r
          have HG := hid (show (mget (tabR rs) pl).getD (rcV ⟨0, 0, 0, false, false⟩) = .agg #[.int .i64 pl, .int .i64 fi, .int .i64 se, .bool fw, .bool sw] from by rw [mget_of_mem HRI.out hmem]; rfl)
          have HFX := hid ((HF.out.keep HKR.out.2.2 HF.out.lt).keep hk5 (Nat.lt_of_lt_of_le HF.out.lt HKR.out.2.2.size))
          have HKK := hid (key_ok hkwf)
          have HTK := hid (show (rs.take (j + 1)).map rcC = (rs.take j).map rcC ++ [rcC ⟨pl, fi, se, fw, sw⟩] from by
            rw [List.take_succ_eq_append_getElem hlt, List.map_append]
            rw [List.getElem?_eq_getElem hlt] at hr
            injection hr with hr
            rw [hr]; rfl)
          have hzz := hk5.size
          have HAP := hid (fun ty : TypeId => race_append w4.heap.size (wr.alloc (.cells (rcC ⟨pl, fi, se, fw, sw⟩).toArray 56)) ty _ _ ⟨pl, fi, se, fw, sw⟩ ⟨wr.heap.size, 0, none⟩ (hrow.keep (q := fun b => b < wr.heap.size) ((Keep.refl _ _).alloc _ (fun _ h => h)) (fun b hb => (hrow.lt hb).2)) (fun q y hq => by rw [addr_add, Nat.zero_add, cell_at (heap_alloc_new wr (.cells (rcC ⟨pl, fi, se, fw, sw⟩).toArray 56)), hq]) (by rw [List.length_map, List.length_take]; have := HRS.out.2; have := HLN.out; omega) (by rw [World.size_alloc]; omega))
          clear hr hmem hkwf hkc hrow hk5 hjk hlt hkl
          go_wp2_with (first | (at_lookup; refine wpList_ilook rfl (.tmp 140) (.tmp 141) 58 56 rfl int_keys Tryd.underlying58 M2 (tabR rs) rfl HFX.out pl rfl HKK.out _ (race_zero _) ?_; rw [HG.out]) | (at_builtin; refine wpList_app rfl (.tmp 139) (.tmp 143) 26 26 rfl _ (HAP.out _) ?_; rintro v7 w7 ⟨r7, k7, o7⟩; have H7 := hid (And.intro r7 (And.intro k7 o7)); clear r7 k7 o7))
          go_roundg (gk - 1)
          case measure => have := H5.out; omega
          case rel =>
            have ka : Keep (· < wr.heap.size) wr (wr.alloc (.cells (rcC ⟨pl, fi, se, fw, sw⟩).toArray 56)) := (Keep.refl _ _).alloc _ (fun _ h => h)
            refine ⟨j + 1, by have := H5.out.2.2; omega, by have := H5.out.2.2; have := HRS.out.2; have := HLN.out; go_num, by rw [HTK.out]; exact H7.out.1, (H5.out.2.1.trans (ka.mono fun b hb => Nat.lt_of_lt_of_le hb hzz)).trans (H7.out.2.1.mono fun b (hb : b < w4.heap.size) => ⟨Nat.lt_of_lt_of_le hb (Nat.le_trans hzz ka.size), fun e => by have := (H5.out.1.lt e).1; omega⟩)⟩
        · obtain rfl : rs.length = j := by omega
          rw [List.take_length] at hrow
          obtain ⟨oa, oc, rfl⟩ := hrow.form
          have zz := HKR.out.2.2.size
          have HFIN := hid (And.intro (show OwnS w.heap.size wr 56 5 _ ((racesP rooms l).map rcC) from by rw [HRS.out.1]; exact hrow.less (Nat.le_trans HKW.out.size zz)) ((HKW.out.trans (HKR.out.2.2.mono fun b hb => Nat.lt_of_lt_of_le hb HKW.out.size)).trans (hk5.mono fun b hb => Nat.lt_of_lt_of_le hb (Nat.le_trans HKW.out.size zz))))
          clear hrow hk5 hjk hlt
          go_wp2_with fail
          go_ret2
          exact ⟨_, rfl, HFIN.out⟩
end Go.Proofs.YtalihehmbiohlaaDoor
