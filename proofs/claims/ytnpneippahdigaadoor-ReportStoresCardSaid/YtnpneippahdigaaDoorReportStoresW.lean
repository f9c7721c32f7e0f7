/-
  Step by step: ReportStores.
-/
import Derived.Test.YtnpneippahdigaaDoorRepS
import Derived.Test.YtnpneippahdigaaDoorRepF
import Derived.Test.YtnpneippahdigaaDoorRepH
namespace Go.Proofs.YtnpneippahdigaaDoor
open Go.RowKit Go.Maps Go.Proofs.Mem Go.Proofs.Txt Go.Proofs.Mp

theorem int_info : ∃ i0, Tryd.prog.info? 3 = some i0 ∧ i0.zero = some (.int .i64 0) ∧ i0.size = 1 ∧ i0.bytes = 8 := by
  obtain ⟨i0, h1, h2, h3, h4⟩ := info_parts (show (Tryd.prog.info? 3).map (fun i => (i.zero, i.size, i.bytes)) = some (some (.int .i64 0), 1, 8) by kernel_rfl)
  exact ⟨i0, h1, h2, h3, h4⟩
/-- append of a number onto a row of its own, with the row that holds it. -/
theorem int_append_one (w : World) (ty : TypeId) (v : Value) (n : Int) (zs : List Int) (hown : Row w 3 v (zs.map (Value.int .i64))) (hl : zs.length ≤ 1000000) :
    ∃ v' w', (Builtin.append_ #[76, 76] ty #[v, .slice (some ⟨w.heap.size, 0, none⟩) 1 1]).run Tryd.prog (w.alloc (.cells #[.int .i64 n] 3)) = .ok v' w' ∧
      (Row w' 3 v' ((zs ++ [n]).map (Value.int .i64)) ∧ Keep (fun k => k < w.heap.size ∧ v.ownBlock ≠ some k) w w' ∧ ∀ k, v'.ownBlock = some k → v.ownBlock = some k ∨ w.heap.size ≤ k) := by
  obtain ⟨i0, hi0, hz0, hs0, hb0⟩ := int_info
  have := append_at_one (P := Tryd.prog) 76 3 i0 (.int .i64 0) 8 Tryd.underlying76 hi0 hz0 hs0 hb0 rfl w ty v (.int .i64 n) _ hown rfl (by rw [List.length_map]; omega) (by rw [List.length_map]; omega)
  rw [List.map_append]
  exact this
theorem RacesAt.back {w w' : World} {p q : Nat → Prop} {v : Value} {l : List Rp.Race} (h : RacesAt w' p v l) (k : Keep q w w') (hq : ∀ b, p b → q b) : RacesAt w p v l := by
  obtain ⟨a, len, cap, rfl, h1, h2, h3, h4⟩ := h
  refine ⟨a, len, cap, rfl, h1, h2, h3, fun i x hx => ?_⟩
  obtain ⟨blk, off, rfl, hp, hr⟩ := h4 i x hx
  exact ⟨blk, off, rfl, hp, fun j v hv => (k.cell (x := ⟨blk, off + i * 5 + j, none⟩) (hq _ hp)).symm.trans (hr j v hv)⟩
theorem cells_blk {w : World} {p : Nat → Prop} {a : Option Addr} {n c : Nat} {cs : List Value} (h : Cells w p (.slice a n c) cs) (h0 : 0 < cs.length) :
    ∃ blk off, a = some ⟨blk, off, none⟩ ∧ p blk ∧ ∀ i, i < cs.length → w.cell? ⟨blk, off + i, none⟩ = cs[i]? := by
  obtain ⟨a', len, cap, e, h1, _, _, h4⟩ := h
  cases e
  subst h1
  exact h4 h0
theorem filter_take (ks : List Int) (i : Nat) (h : i < ks.length) (g : Int → Bool) : (ks.take (i + 1)).filter g = (ks.take i).filter g ++ (if g ks[i] then [ks[i]] else []) := by
  rw [List.take_succ_eq_append_getElem h, List.filter_append]
  congr 1
  rw [List.filter_cons]
  split <;> simp

set_option maxRecDepth 100000 in
set_option maxHeartbeats 16000000 in
theorem reportStores_walk (u : Value) (ops : List OpIn) (es : List Addr) (w : World) (hes : ErrsAt w errGs es) (hnd : es.Nodup) (hu : OpsAt w u ops) :
    Calls Tryd.prog 14 #[u] w fun e w' => e = .returned (.bool true) ∧ Keep (· < w.heap.size) w w' := by
  obtain ⟨q, hq, hqc, hql⟩ := ev_at hes 8 2 rfl
  obtain ⟨qf, hqf, hqfc, hqfl⟩ := ev_at hes 6 8 rfl
  obtain ⟨qn, hqn, hqnc, hqnl⟩ := ev_at hes 7 9 rfl
  have HES := hid hes
  have HND := hid hnd
  have HQ := hid (And.intro hq (And.intro hqf hqn))
  have HU := hid hu
  obtain ⟨a1, n1, c1, rfl, e1, m1, q1, _⟩ := hu
  subst e1
  have q1' : c1 ≤ 9223372036854775807 := by simpa [maxLen] using q1
  have NUM := hid (show ∀ w0 : World, Keep (· < w.heap.size) w w0 → (Calls Tryd.prog 19 #[.iface 217 (.pointer (some q))] w0 fun e w' => e = .returned (.int .i64 9) ∧ Keep (· < w0.heap.size) w0 w') ∧ (Calls Tryd.prog 19 #[.iface 217 (.pointer (some qf))] w0 fun e w' => e = .returned (.int .i64 7) ∧ Keep (· < w0.heap.size) w0 w') ∧ (Calls Tryd.prog 19 #[.iface 217 (.pointer (some qn))] w0 fun e w' => e = .returned (.int .i64 8) ∧ Keep (· < w0.heap.size) w0 w') from fun w0 k0 =>
    ⟨num_at es 8 q w0 (HES.out.keep k0 (fun _ h => h)) HND.out HQ.out.1, num_at es 6 qf w0 (HES.out.keep k0 (fun _ h => h)) HND.out HQ.out.2.1, num_at es 7 qn w0 (HES.out.keep k0 (fun _ h => h)) HND.out HQ.out.2.2⟩)
  have CODE := hid (show ∀ w0 : World, Keep (· < w.heap.size) w w0 → w0.cell? ⟨2, 0, none⟩ = some (.iface 217 (.pointer (some q))) ∧ 2 < w0.heap.size from fun w0 k0 => ⟨(k0.cell (x := ⟨2, 0, none⟩) hql).trans hqc, Nat.lt_of_lt_of_le hql k0.size⟩)
  have FULL := hid (show ∀ w0 : World, Keep (· < w.heap.size) w w0 → w0.cell? ⟨8, 0, none⟩ = some (.iface 217 (.pointer (some qf))) ∧ 8 < w0.heap.size from fun w0 k0 => ⟨(k0.cell (x := ⟨8, 0, none⟩) hqfl).trans hqfc, Nat.lt_of_lt_of_le hqfl k0.size⟩)
  have NONE := hid (show ∀ w0 : World, Keep (· < w.heap.size) w w0 → w0.cell? ⟨9, 0, none⟩ = some (.iface 217 (.pointer (some qn))) ∧ 9 < w0.heap.size from fun w0 k0 => ⟨(k0.cell (x := ⟨9, 0, none⟩) hqnl).trans hqnc, Nat.lt_of_lt_of_le hqnl k0.size⟩)
  have hmm := @run_makeMap Tryd.prog
  clear hes hnd hq hqf hqn hqc hqfc hqnc hql hqfl hqnl q1
  go_enter Tryd.func14, Tryd.ntmps14
  go_wp2_with fail
  refine (alive20_walk _ _ (CODE.out _ (Keep.refl _ _)).1 (CODE.out _ (Keep.refl _ _)).2).mono ?_
  rintro e w1 ⟨rfl, k1⟩
  have K1 := hid k1
  clear k1
  go_wp2_with fail
  refine (snew_walk w1).mono ?_
  rintro e w2 ⟨rfl, hs2, k2⟩
  have H2 := hid (And.intro hs2 k2)
  clear hs2 k2
  go_upto_region 5 with fail
  refine wp_world (fun w3 => ∃ Mh nv, Mh = w2.heap.size + 1 ∧ nv = .slice (some ⟨w2.heap.size, 0, none⟩) 0 0 ∧ Stores w1 (w1.heap.size + 1) w1.heap.size Mh w3 0 [] (fun _ => none) [] (fun _ => none) [] nv) ?init ?_
  case init =>
    have k1 : Keep (· < w2.heap.size) w2 (w2.alloc (.cells #[] 3)) := (Keep.refl _ _).alloc _ (fun _ h => h)
    have k2 := two_allocs w2 (.cells #[] 3) (.map #[] 0)
    refine ⟨_, _, rfl, rfl, H2.out.1.keep k2 H2.out.1.lt.1 H2.out.1.lt.2, fun k => .inl ⟨rfl, rfl⟩, ?_, fun k => .inl ⟨rfl, rfl⟩, ?_, fun k hk => ?_, H2.out.2.trans (k2.mono (fun b h => Nat.lt_of_lt_of_le h H2.out.2.size)), ?_⟩
    · have := IMap.made Tryd.prog 3 (w2.alloc (.cells #[] 3))
      simpa using this
    · exact (row_of_block (w := w2.alloc (.cells #[] 3)) (b := w2.heap.size) (E := 3) (cs := []) (heap_alloc_new w2 _) (by decide)).keep (q := (· < (w2.alloc (.cells #[] 3)).heap.size)) ((Keep.refl _ _).alloc _ (fun _ h => h)) (fun b hb => by have : w2.heap.size = b := Option.some.inj hb; simp; omega)
    · have hk : w2.heap.size = k := Option.some.inj hk
      have h1 := H2.out.1.lt
      have h2 := H2.out.2.size
      omega
    · have h1 := H2.out.1.lt
      have h2 := H2.out.2.size
      omega
  rintro w3 ⟨Mh, nv, hMh, hnv, h3⟩
  have HNV := hid (show ∀ k, nv.ownBlock = some k → k < w3.heap.size from fun k hk => h3.num.lt hk)
  have H3 := hid h3
  rw [← hnv, ← hMh]
  obtain ⟨S, hS⟩ : ∃ S, w1.heap.size + 1 = S := ⟨_, rfl⟩
  obtain ⟨M, hM⟩ : ∃ M, w1.heap.size = M := ⟨_, rfl⟩
  rw [hS, hM] at H3
  rw [hS]
  have W1 := hid hM
  clear h3 hnv hMh hS hM H2 hmm
  go_wp2_with fail
  go_loopg [4, 6, 26] ops.length (fun k s4 s6 s26 wr => ∃ (i : Nat) (last : Int) (m mh : Tab) (f : Int → Option Rp.Rep) (ks : List Int) (nv : Value), i + k = ops.length ∧ s26 = .int .i64 (i : Int) ∧ s6 = .int .i64 last ∧ s4 = nv ∧ Stores w1 S M Mh wr last m f mh f ks nv ∧ m.map (·.1) = ks ∧ m.length ≤ 8 ∧ mh.length ≤ i ∧ (0 ≤ last ∧ last ≤ i ∧ i ≤ 101) ∧ (∀ p ∈ m, p.1 ≤ last) ∧ (∀ k r, f k = some r → r.races.length ≤ 1000000))
  case atStart => exact ⟨0, 0, [], [], _, [], nv, by omega, rfl, rfl, rfl, H3.out, rfl, Nat.zero_le _, Nat.zero_le _, ⟨Int.le_refl _, Int.le_refl _, by omega⟩, fun p hp => by (cases hp), fun k r h => by cases h⟩
  case round =>
    obtain ⟨i, last, m, mh, f, ks, nv, hik, rfl, rfl, rfl, hst, hks, hm8, hmh, hlw, hle, hrl⟩ := hrel
    have HS := hid hst
    have HIK := hid hik
    have HKS := hid (And.intro hks (And.intro hm8 (And.intro hle hrl)))
    have KW := hid (K1.out.trans (hst.keep.mono (fun b h => Nat.lt_of_lt_of_le h K1.out.size)))
    obtain ⟨na, nc, rfl⟩ := hst.num.form
    have hkl : ks.length ≤ 8 := by rw [← hks, List.length_map]; exact hm8
    rw [List.length_map] at HS ⊢
    have HNB := hid (fun k (hk : (Value.slice na ks.length nc).ownBlock = some k) => HS.out.num.lt hk)
    clear hst hks hm8 hle hrl
    by_cases hlt : i < ops.length
    · have l0 : (i : Int) < (ops.length : Int) := by omega
      obtain ⟨x, hx⟩ : ∃ x, ops[i] = x := ⟨_, rfl⟩
      obtain ⟨ab, len, cap, e, g1, g2, g3, hop⟩ := HU.out
      obtain ⟨⟨blk, off, hab, hrg⟩, hra, hwf⟩ := hop i x (by rw [List.getElem?_eq_getElem hlt, hx])
      injection e with e1 e2 e3
      rw [hab] at e1
      subst e1
      have RG := hid (show wr.rangeAt blk (off + i * 9) (opC x) from fun j v hv => (KW.out.cell (x := ⟨blk, off + i * 9 + j, none⟩) (World.block_lt_of_cell? w _ (hrg j v hv))).trans (hrg j v hv))
      have HRX := hid (hra.lt.mono (q := fun b => b < w.heap.size) (fun _ h => h.1))
      have HWX := hid hwf
      have HIM := hid hlt
      clear hop hrg hra hwf hab hik hlt hx g1 g2 g3 e2 e3
      obtain ⟨kd, n, r, rv⟩ := x
      have HRA : Hid (RacesAt w (fun b => b < w.heap.size) rv r.races) := HRX
      have HWF : Hid ((Lit.int .i64 n).wf = true) := HWX
      clear HRX HWX
      obtain ⟨ra, rc, rfl, hrc1, hrc2⟩ := HRA.out.form
      obtain ⟨L, hL⟩ : ∃ L, r.races.length = L := ⟨_, rfl⟩
      rw [hL] at HRA RG hrc1
      have HL := hid hL
      clear hL
      have osz := op_size ⟨kd, n, r, .slice ra L rc⟩
      have o1 : (opC ⟨kd, n, r, .slice ra L rc⟩).toArray.all (·.oneCell') = true := by simp [opC, rpC, endC, Value.oneCell']
      obtain ⟨O, hO⟩ : ∃ O, O = wr.heap.size := ⟨_, rfl⟩
      go_upto_region 9 with (first
        | (refine wpList_load_mid rfl 109 (.tmp 29) rfl blk (off + i * 9) rfl (opC ⟨kd, n, r, .slice ra L rc⟩) _ RG.out Tryd.underlying109 rfl osz ?_)
        | (refine wpList_store_row rfl 109 (.tmp 8) (.tmp 30) rfl wr.heap.size (opC ⟨kd, n, r, .slice ra L rc⟩).toArray rfl rfl 109 _ (heap_alloc_new wr _) (by rw [List.size_toArray]; exact osz) rfl o1 ?_))
      refine wp_world (fun wa => Keep (· < wr.heap.size) wr wa ∧ wa.heap[wr.heap.size]? = some (.cells (opC ⟨kd, n, r, .slice ra L rc⟩).toArray 109 (0, 0)) ∧ wr.heap.size < wa.heap.size)
        ⟨((Keep.refl _ _).alloc _ (fun _ h => h)).setRow _ (by simp), heap_setRow (heap_alloc_new wr _) _, by simp⟩ ?_
      rintro wa ⟨ka, ra0, za⟩
      rw [← hO] at ra0 za ⊢
      have HSA := hid (HS.out.step ka)
      have HOW := hid hO
      have HRO := hid (And.intro ra0 za)
      have KA := hid (KW.out.trans (ka.mono (fun b h => Nat.lt_of_lt_of_le h KW.out.size)))
      have HNE := hid (show O ≠ S ∧ O ≠ M ∧ O ≠ Mh ∧ w.heap.size ≤ O by
        have h1 := HS.out.sto.lt
        have h2 := HS.out.hmap.lt
        have h3 := KW.out.size
        omega)
      have ck : wa.cell? ⟨O, 0, none⟩ = some (.int .i64 kd) := cell_at ra0 0
      have cn : wa.cell? ⟨O, 1, none⟩ = some (.int .i64 n) := cell_at ra0 1
      have cr : wa.cell? ⟨O, 8, none⟩ = some (.slice ra L rc) := cell_at ra0 8
      clear ka ra0 za hO o1 HS RG KW
      by_cases hb1 : 100 < i
      · have t1 : decide ((100 : Int) < (i : Int)) = true := by simp; omega
        clear hb1
        go_wp2_with fail
        go_ret
        exact ⟨rfl, KA.out⟩
      · have t1 : decide ((100 : Int) < (i : Int)) = false := by simp; omega
        have hi100 : (i : Int) ≤ 100 := by omega
        clear hb1
        by_cases hb2 : 1000 < L
        · have t2 : decide ((1000 : Int) < (L : Int)) = true := by simp; omega
          clear hb2
          go_wp2_with fail
          go_ret
          exact ⟨rfl, KA.out⟩
        · have t2 : decide ((1000 : Int) < (L : Int)) = false := by simp; omega
          have hL1000 : L ≤ 1000 := by omega
          clear hb2
          obtain ⟨ha, hc, hv, hs, hr⟩ := HSA.out.hent.val n
          obtain ⟨r0, hr0⟩ : ∃ r0, (f n).getD noRep = r0 := ⟨_, rfl⟩
          rw [hr0] at hv hr
          have hi0 := rp_size r0 (.slice ha r0.races.length hc)
          have h10 := rp_one r0 ha r0.races.length hc
          have hold : (rpC noRep (.slice none 0 0)).toArray.size = (rpC r0 (.slice ha r0.races.length hc)).toArray.size := rfl
          obtain ⟨T, hT⟩ : ∃ T, (f n).isSome = T := ⟨_, rfl⟩
          rw [hT] at hs
          have HV := hid (And.intro hv (And.intro hs (And.intro hr0 hT)))
          have HR0 := hid (hr.back HSA.out.keep (fun _ h => h))
          have HKY := hid (key_ok HWF.out)
          clear hv hs hr0 hT hr
          go_upto_region 11 with (first
            | (at_lookup; refine wpList_ilook_ok rfl (.tmp 41) (.tmp 43) 107 26 rfl int_keys Tryd.underlying107 Mh mh rfl HSA.out.hmap n rfl HKY.out _ (rep_zero _) ?_; rw [HV.out.1, HV.out.2.1]; unfold repV)
            | (refine wpList_store_row rfl 26 (.tmp 9) (.tmp 45) rfl wa.heap.size (rpC r0 (.slice ha r0.races.length hc)).toArray rfl rfl 26 _ (heap_alloc_new wa _) hi0 hold h10 ?_))
          refine wp_world (fun wb => Keep (· < wa.heap.size) wa wb ∧ wb.heap[wa.heap.size]? = some (.cells (rpC r0 (.slice ha r0.races.length hc)).toArray 26 (0, 0)) ∧ wa.heap.size < wb.heap.size)
            ⟨((Keep.refl _ _).alloc _ (fun _ h => h)).setRow _ (by simp), heap_setRow (heap_alloc_new wa _) _, by simp⟩ ?_
          rintro wb ⟨kb, rz0, zb⟩
          obtain ⟨Z, hZ⟩ : ∃ Z, Z = wa.heap.size := ⟨_, rfl⟩
          rw [← hZ] at rz0 zb ⊢
          have HSB := hid (HSA.out.step kb)
          have ro0 := (kb.block O HRO.out.2).trans HRO.out.1
          have HRZ := hid (And.intro ro0 (And.intro rz0 (And.intro (Nat.lt_of_lt_of_le HRO.out.2 kb.size) zb)))
          have KB := hid (KA.out.trans (kb.mono (fun b h => Nat.lt_of_lt_of_le h KA.out.size)))
          have HNZ := hid (show Z ≠ S ∧ Z ≠ M ∧ Z ≠ Mh by
            have h1 := HSA.out.sto.lt
            have h2 := HSA.out.hmap.lt
            omega)
          have bk : wb.cell? ⟨O, 0, none⟩ = some (.int .i64 kd) := cell_at ro0 0
          have bn : wb.cell? ⟨O, 1, none⟩ = some (.int .i64 n) := cell_at ro0 1
          have hi := rp_size r (.slice ra L rc)
          clear kb rz0 zb ro0 hZ hi0 h10 hold ck cn cr HSA KA HRO t1 t2
          have hkc : kd = 1 ∨ kd = 2 ∨ kd = 3 ∨ ((kd == 1) = false ∧ (kd == 2) = false ∧ (kd == 3) = false) := by
            by_cases h1 : kd = 1
            · exact .inl h1
            · by_cases h2 : kd = 2
              · exact .inr (.inl h2)
              · by_cases h3 : kd = 3
                · exact .inr (.inr (.inl h3))
                · exact .inr (.inr (.inr ⟨by simp [h1], by simp [h2], by simp [h3]⟩))
          rcases hkc with rfl | rfl | rfl | ⟨kk1, kk2, kk3⟩
          · have RRO := hid (range_at HRZ.out.1 2 7)
            obtain ⟨ok, hok⟩ : ∃ b, Rp.ok r = b := ⟨_, rfl⟩
            have HOK := hid hok
            have HRB := hid (HRA.out.keep KB.out (fun _ h => h))
            have FORM := hid (show ∀ wx : World, Keep (· < w.heap.size) w wx → Calls Tryd.prog 16 #[.agg (rpC r (.slice ra L rc)).toArray] wx fun e w' => e = .returned (.bool ok) ∧ Keep (· < wx.heap.size) wx w' from fun wx kx => by
              have := rform_walk r (.slice ra L rc) wx _ (HRA.out.keep kx (fun _ h => h))
              rwa [hok] at this)
            clear hok
            go_wp2_with (refine wpList_load_mid rfl 26 (.tmp 53) rfl O 2 rfl (rpC r (.slice ra L rc)) _ RRO.out Tryd.underlying26 rfl hi ?_)
            cases ok with
            | false =>
              refine (sadd_bad S r (.slice ra L rc) q wb _ HRB.out (CODE.out _ KB.out).1 (CODE.out _ KB.out).2 HOK.out).mono ?_
              rintro e wc ⟨rfl, kc⟩
              have HSC := hid (HSB.out.step kc)
              have KC := hid (KB.out.trans (kc.mono (fun b h => Nat.lt_of_lt_of_le h KB.out.size)))
              have RRC := hid (range_at ((kc.block O HRZ.out.2.2.1).trans HRZ.out.1) 2 7)
              clear kc HSB RRO bk bn
              go_wp2_with (refine wpList_load_mid rfl 26 (.tmp 76) rfl O 2 rfl (rpC r (.slice ra L rc)) _ RRC.out Tryd.underlying26 rfl hi ?_)
              refine (FORM.out _ KC.out).mono ?_
              rintro e wd ⟨rfl, kd'⟩
              have HSD := hid (HSC.out.step kd')
              have KD := hid (KC.out.trans (kd'.mono (fun b h => Nat.lt_of_lt_of_le h KC.out.size)))
              clear kd' HSC RRC
              go_wp2_with fail
              refine (NUM.out _ KD.out).1.mono ?_
              rintro e we ⟨rfl, ke⟩
              have HF := hid (HSD.out.step ke)
              have KF := hid (KD.out.trans (ke.mono (fun b h => Nat.lt_of_lt_of_le h KD.out.size)))
              clear ke HSD
              go_upto_region 42 with fail
              have HG := hid (show m.map (·.1) = ks ∧ m.length ≤ 8 ∧ (∀ p ∈ m, p.1 ≤ last) ∧ (∀ k r, f k = some r → r.races.length ≤ 1000000) ∧ (0 ≤ last ∧ last ≤ i + 1 ∧ (i : Int) ≤ 100) ∧ mh.length ≤ i + 1 from ⟨HKS.out.1, HKS.out.2.1, HKS.out.2.2.1, HKS.out.2.2.2, ⟨hlw.1, by omega, hi100⟩, by omega⟩)
              go_wp2_with fail
              refine (slist_walk S M last m _ HF.out.sto (by have := HG.out.2.1; omega)).mono ?_
              rintro e wl ⟨lv, rfl, hlr, hlo, kl⟩
              have hk1 := HG.out.1
              have HFL := hid (HF.out.step kl)
              have KL := hid (KF.out.trans (kl.mono (fun b h => Nat.lt_of_lt_of_le h KF.out.size)))
              rw [hk1] at hlr
              have HSM := hid (sameInts_walk _ _ ks wl _ _ hlr.cells HFL.out.num.cells)
              clear hlr hlo kl hk1 HF KF
              go_wp2_with fail
              refine HSM.out.mono ?_
              rintro e wm ⟨rfl, km⟩
              have HFM := hid (HFL.out.step (km.mono (fun _ _ => trivial)))
              have KM := hid (KL.out.trans (km.mono (fun _ _ => trivial)))
              have hlk : ks.length = (m).length := by rw [← HG.out.1, List.length_map]
              have hm8' := HG.out.2.1
              obtain ⟨tf, htf⟩ : ∃ tf, decide (8 ≤ (m).length) = tf := ⟨_, rfl⟩
              have HTF := hid htf
              have et : (((ks.length : Nat) : Int) == 8) = tf := by
                rw [← htf, hlk]
                by_cases h : (m).length = 8
                · simp [h]
                · have h1 : ¬ 8 ≤ (m).length := by omega
                  simp [h1]; omega
              have ef : (tf != tf) = false := by simp
              clear km htf hlk hm8' HSM HFL KL
              go_wp2_with fail
              refine (sfull_walk S M last m tf wm HFM.out.sto HTF.out).mono ?_
              rintro e wn ⟨rfl, rfl⟩
              go_wp2_with fail
              go_roundg (gk - 1)
              case measure => have := HIK.out; have := HIM.out; omega
              case rel => exact ⟨i + 1, last, m, mh, f, ks, _, by have := HIK.out; have := HIM.out; omega, by go_num, rfl, rfl, HFM.out, HG.out.1, HG.out.2.1, by have := HG.out.2.2.2.2.2; omega, by have := HG.out.2.2.2.2.1; omega, HG.out.2.2.1, HG.out.2.2.2.1⟩
            | true =>
              by_cases h8 : 8 ≤ m.length
              · have hml : m.length = 8 := by have := HKS.out.2.1; omega
                have e8 : (((ks.length : Nat) : Int) == 8) = true := by rw [← HKS.out.1, List.length_map, hml]; rfl
                refine (sadd_full S M last m r (.slice ra L rc) _ _ wb _ HSB.out.sto HRB.out (CODE.out _ KB.out).1 (CODE.out _ KB.out).2 (FULL.out _ KB.out).1 (FULL.out _ KB.out).2 HOK.out h8).mono ?_
                rintro e wc ⟨rfl, kc⟩
                have HSC := hid (HSB.out.step kc)
                have KC := hid (KB.out.trans (kc.mono (fun b h => Nat.lt_of_lt_of_le h KB.out.size)))
                have RRC := hid (range_at ((kc.block O HRZ.out.2.2.1).trans HRZ.out.1) 2 7)
                clear kc HSB RRO bk bn hml h8
                go_wp2_with (refine wpList_load_mid rfl 26 (.tmp 76) rfl O 2 rfl (rpC r (.slice ra L rc)) _ RRC.out Tryd.underlying26 rfl hi ?_)
                refine (FORM.out _ KC.out).mono ?_
                rintro e wd ⟨rfl, kd'⟩
                have HSD := hid (HSC.out.step kd')
                have KD := hid (KC.out.trans (kd'.mono (fun b h => Nat.lt_of_lt_of_le h KC.out.size)))
                clear kd' HSC RRC
                go_wp2_with fail
                refine (NUM.out _ KD.out).2.1.mono ?_
                rintro e we ⟨rfl, ke⟩
                have HF := hid (HSD.out.step ke)
                have KF := hid (KD.out.trans (ke.mono (fun b h => Nat.lt_of_lt_of_le h KD.out.size)))
                clear ke HSD e8
                go_upto_region 42 with fail
                have HG := hid (show m.map (·.1) = ks ∧ m.length ≤ 8 ∧ (∀ p ∈ m, p.1 ≤ last) ∧ (∀ k r, f k = some r → r.races.length ≤ 1000000) ∧ (0 ≤ last ∧ last ≤ i + 1 ∧ (i : Int) ≤ 100) ∧ mh.length ≤ i + 1 from ⟨HKS.out.1, HKS.out.2.1, HKS.out.2.2.1, HKS.out.2.2.2, ⟨hlw.1, by omega, hi100⟩, by omega⟩)
                go_wp2_with fail
                refine (slist_walk S M last m _ HF.out.sto (by have := HG.out.2.1; omega)).mono ?_
                rintro e wl ⟨lv, rfl, hlr, hlo, kl⟩
                have hk1 := HG.out.1
                have HFL := hid (HF.out.step kl)
                have KL := hid (KF.out.trans (kl.mono (fun b h => Nat.lt_of_lt_of_le h KF.out.size)))
                rw [hk1] at hlr
                have HSM := hid (sameInts_walk _ _ ks wl _ _ hlr.cells HFL.out.num.cells)
                clear hlr hlo kl hk1 HF KF
                go_wp2_with fail
                refine HSM.out.mono ?_
                rintro e wm ⟨rfl, km⟩
                have HFM := hid (HFL.out.step (km.mono (fun _ _ => trivial)))
                have KM := hid (KL.out.trans (km.mono (fun _ _ => trivial)))
                have hlk : ks.length = (m).length := by rw [← HG.out.1, List.length_map]
                have hm8' := HG.out.2.1
                obtain ⟨tf, htf⟩ : ∃ tf, decide (8 ≤ (m).length) = tf := ⟨_, rfl⟩
                have HTF := hid htf
                have et : (((ks.length : Nat) : Int) == 8) = tf := by
                  rw [← htf, hlk]
                  by_cases h : (m).length = 8
                  · simp [h]
                  · have h1 : ¬ 8 ≤ (m).length := by omega
                    simp [h1]; omega
                have ef : (tf != tf) = false := by simp
                clear km htf hlk hm8' HSM HFL KL
                go_wp2_with fail
                refine (sfull_walk S M last m tf wm HFM.out.sto HTF.out).mono ?_
                rintro e wn ⟨rfl, rfl⟩
                go_wp2_with fail
                go_roundg (gk - 1)
                case measure => have := HIK.out; have := HIM.out; omega
                case rel => exact ⟨i + 1, last, m, mh, f, ks, _, by have := HIK.out; have := HIM.out; omega, by go_num, rfl, rfl, HFM.out, HG.out.1, HG.out.2.1, by have := HG.out.2.2.2.2.2; omega, by have := HG.out.2.2.2.2.1; omega, HG.out.2.2.1, HG.out.2.2.2.1⟩
              · have e8 : (((ks.length : Nat) : Int) == 8) = false := by rw [← HKS.out.1, List.length_map]; simp; omega
                have hS0 := HSB.out.ne
                have hw1 := K1.out.size
                refine (sadd_good S M last m r (.slice ra L rc) _ wb _ HSB.out.sto HRB.out (CODE.out _ KB.out).1 (CODE.out _ KB.out).2 HOK.out (fun b hb => by omega) (by omega) hlw.1 (by omega)).mono ?_
                rintro e wc ⟨v4, rfl, hs4, hv4, kc⟩
                have HSC := hid (HSB.out.add (last + 1) r v4 hs4 hv4 kc)
                have KC := hid (KB.out.trans (kc.mono (fun b (h : b < w.heap.size) => ⟨Nat.lt_of_lt_of_le h KB.out.size, by omega, by omega⟩)))
                have HR2 := hid ((kc.block O ⟨HRZ.out.2.2.1, HNE.out.1, HNE.out.2.1⟩).trans HRZ.out.1)
                have ZR2 := hid (show O < wc.heap.size from Nat.lt_of_lt_of_le HRZ.out.2.2.1 kc.size)
                have RRC := hid (range_at HR2.out 2 7)
                have h8' := hid h8
                clear kc HSB RRO bk bn h8 hs4 hv4 hS0 hw1
                go_wp2_with (refine wpList_load_mid rfl 26 (.tmp 76) rfl O 2 rfl (rpC r (.slice ra L rc)) _ RRC.out Tryd.underlying26 rfl hi ?_)
                refine (FORM.out _ KC.out).mono ?_
                rintro e wd ⟨rfl, kd'⟩
                have HSD := hid (HSC.out.step kd')
                have KD := hid (KC.out.trans (kd'.mono (fun b h => Nat.lt_of_lt_of_le h KC.out.size)))
                have HR3 := hid ((kd'.block O ZR2.out).trans HR2.out)
                have ZR3 := hid (show O < wd.heap.size from Nat.lt_of_lt_of_le ZR2.out kd'.size)
                have HAP := hid (fun ty : TypeId => int_append_one wd ty _ (last + 1) ks HSD.out.num (by omega))
                have nl : (last + 1 != last + 1) = false := by simp
                have hl1 : last ≤ 100 := by omega
                clear kd' HSC RRC HR2 ZR2
                go_upto_region 18 with (at_builtin; refine wpList_app rfl (.tmp 67) (.tmp 69) 76 76 rfl _ (HAP.out _) ?_; rintro v5 w5 ⟨r5, k5, o5⟩; have H5 := hid (And.intro r5 (And.intro k5 o5)); clear r5 k5 o5)
                obtain ⟨ks', hks'⟩ : ∃ ks', ks ++ [last + 1] = ks' := ⟨_, rfl⟩
                rw [hks'] at H5
                have HKS' := hid hks'
                clear hks'
                obtain ⟨na', nc', hf5⟩ := H5.out.1.form
                subst hf5
                rw [List.length_map] at H5
                have HSE := hid (HSD.out.app H5.out.1 H5.out.2.1 H5.out.2.2)
                have hno : ∀ b, b < w.heap.size ∨ b = O → (Value.slice na ks.length nc).ownBlock ≠ some b := fun b hb e => by
                  have h1 := (HSD.out.numo b e).1
                  have h2 := K1.out.size
                  have h3 := HNB.out b e
                  have h4 := HOW.out
                  omega
                have KE := hid (KD.out.trans (H5.out.2.1.mono (fun b (h : b < w.heap.size) => ⟨Nat.lt_of_lt_of_le h KD.out.size, hno b (.inl h)⟩)))
                have RR5 := hid (range_at ((H5.out.2.1.block O ⟨ZR3.out, hno O (.inr rfl)⟩).trans HR3.out) 2 7)
                have hent := HSE.out.hent.put (last + 1) r (.slice ra L rc) ((HRA.out.keep KE.out (fun _ h => h)).mono (fun b hb => Nat.lt_of_lt_of_le hb K1.out.size))
                have HEN := hid hent
                have hmhl : mh.length < maxLen := by unfold maxLen; omega
                rw [List.length_map]
                clear HSD hno hent
                go_upto_region 42 with (first
                  | (refine wpList_load_mid rfl 26 (.tmp 73) rfl O 2 rfl (rpC r (.slice ra L rc)) _ RR5.out Tryd.underlying26 rfl hi ?_)
                  | (refine wpList_istore rfl (.tmp 71) (.tmp 72) (.tmp 74) 107 26 rfl int_keys Tryd.underlying107 Mh mh rfl HSE.out.hmap hmhl (last + 1) rfl (key_ok (key_small (by omega) (by omega))) (repV r (.slice ra L rc)) rfl ?_; intro w6 hm6 hg6; have H6 := hid (And.intro hm6 hg6); clear hm6 hg6))
                have HF := hid (HSE.out.hturn H6.out.1 H6.out.2 HEN.out)
                have KF := hid (KE.out.trans ((Keep.refl (fun k => k < w5.heap.size ∧ k ≠ Mh) _).grown H6.out.2 (fun k hk => ⟨hk.1, fun e => hk.2 (by injection e)⟩) |>.mono (fun b (h : b < w.heap.size) => ⟨Nat.lt_of_lt_of_le h KE.out.size, by have := HSE.out.ne; have := K1.out.size; omega⟩)))
                have hml : mput m (last + 1) (repV r v4) = m ++ [(last + 1, repV r v4)] := mput_last (fun p hp => by have := HKS.out.2.2.1 p hp; omega)
                have HG := hid (show (mput m (last + 1) (repV r v4)).map (·.1) = ks' ∧ (mput m (last + 1) (repV r v4)).length ≤ 8 ∧ (∀ p ∈ mput m (last + 1) (repV r v4), p.1 ≤ last + 1) ∧ (∀ k r', (if last + 1 = k then some r else f k) = some r' → r'.races.length ≤ 1000000) ∧ (0 ≤ last + 1 ∧ last + 1 ≤ i + 1 ∧ (i : Int) ≤ 100) ∧ (mput mh (last + 1) (repV r (.slice ra L rc))).length ≤ i + 1 from by
                  refine ⟨?_, ?_, ?_, ?_, ?_, ?_⟩
                  · rw [hml, List.map_append, HKS.out.1, ← HKS'.out]; rfl
                  · rw [hml, List.length_append]; have := h8'.out; simp; omega
                  · intro p hp
                    rw [hml] at hp
                    rcases List.mem_append.1 hp with h | h
                    · have := HKS.out.2.2.1 p h; omega
                    · rw [List.mem_singleton.1 h]; exact Int.le_refl _
                  · intro k r' hk
                    split at hk
                    · cases hk; rw [HL.out]; omega
                    · exact HKS.out.2.2.2 k r' hk
                  · omega
                  · exact Nat.le_trans (length_put_le _ _ _) (by omega))
                clear hml nl hl1 hmhl e8
                go_wp2_with fail
                refine (slist_walk S M (last + 1) (mput m (last + 1) (repV r v4)) _ HF.out.sto (by have := HG.out.2.1; omega)).mono ?_
                rintro e wl ⟨lv, rfl, hlr, hlo, kl⟩
                have hk1 := HG.out.1
                have HFL := hid (HF.out.step kl)
                have KL := hid (KF.out.trans (kl.mono (fun b h => Nat.lt_of_lt_of_le h KF.out.size)))
                rw [hk1] at hlr
                have HSM := hid (sameInts_walk _ _ ks' wl _ _ hlr.cells HFL.out.num.cells)
                clear hlr hlo kl hk1 HF KF
                go_wp2_with fail
                refine HSM.out.mono ?_
                rintro e wm ⟨rfl, km⟩
                have HFM := hid (HFL.out.step (km.mono (fun _ _ => trivial)))
                have KM := hid (KL.out.trans (km.mono (fun _ _ => trivial)))
                have hlk : ks'.length = ((mput m (last + 1) (repV r v4))).length := by rw [← HG.out.1, List.length_map]
                have hm8' := HG.out.2.1
                obtain ⟨tf, htf⟩ : ∃ tf, decide (8 ≤ ((mput m (last + 1) (repV r v4))).length) = tf := ⟨_, rfl⟩
                have HTF := hid htf
                have et : (((ks'.length : Nat) : Int) == 8) = tf := by
                  rw [← htf, hlk]
                  by_cases h : ((mput m (last + 1) (repV r v4))).length = 8
                  · simp [h]
                  · have h1 : ¬ 8 ≤ ((mput m (last + 1) (repV r v4))).length := by omega
                    simp [h1]; omega
                have ef : (tf != tf) = false := by simp
                clear km htf hlk hm8' HSM HFL KL
                go_wp2_with fail
                refine (sfull_walk S M (last + 1) (mput m (last + 1) (repV r v4)) tf wm HFM.out.sto HTF.out).mono ?_
                rintro e wn ⟨rfl, rfl⟩
                go_wp2_with fail
                go_roundg (gk - 1)
                case measure => have := HIK.out; have := HIM.out; omega
                case rel => exact ⟨i + 1, (last + 1), (mput m (last + 1) (repV r v4)), (mput mh (last + 1) (repV r (.slice ra L rc))), (fun j => if last + 1 = j then some r else f j), ks', _, by have := HIK.out; have := HIM.out; omega, by go_num, rfl, rfl, HFM.out, HG.out.1, HG.out.2.1, by have := HG.out.2.2.2.2.2; omega, by have := HG.out.2.2.2.2.1; omega, HG.out.2.2.1, HG.out.2.2.2.1⟩
          · go_upto_region 26 with fail
            go_wp2_with fail
            refine (sget_walk S M last m f n _ wb _ HSB.out.sto HSB.out.ent HKS.out.2.2.2 HWF.out (NONE.out _ KB.out).1 (NONE.out _ KB.out).2).mono ?_
            rintro e wc ⟨gv, rfl, hgr, kc⟩
            rw [HV.out.2.2.1] at hgr ⊢
            rw [HV.out.2.2.2]
            obtain ⟨ga, gc, rfl, _, _⟩ := hgr.form
            have HSC := hid (HSB.out.step kc)
            have KC := hid (KB.out.trans (kc.mono (fun b h => Nat.lt_of_lt_of_le h KB.out.size)))
            have HGR := hid hgr.lt
            have HZC := hid (And.intro ((kc.block Z HRZ.out.2.2.2).trans HRZ.out.2.1) (Nat.lt_of_lt_of_le HRZ.out.2.2.2 kc.size))
            have gi := rp_size r0 (.slice ga r0.races.length gc)
            have g1 := rp_one r0 ga r0.races.length gc
            have gi0 := rp_size r0 (.slice ha r0.races.length hc)
            have gold : (rpC noRep (.slice none 0 0)).toArray.size = (rpC r0 (.slice ga r0.races.length gc)).toArray.size := rfl
            unfold repV
            clear kc hgr HSB bk bn
            go_upto_region 27 with (refine wpList_store_row rfl 26 (.tmp 13) (.tmp 105) rfl wc.heap.size (rpC r0 (.slice ga r0.races.length gc)).toArray rfl rfl 26 _ (heap_alloc_new wc _) gi gold g1 ?_)
            refine wp_world (fun wd => Keep (· < wc.heap.size) wc wd ∧ wd.heap[wc.heap.size]? = some (.cells (rpC r0 (.slice ga r0.races.length gc)).toArray 26 (0, 0)) ∧ wc.heap.size < wd.heap.size)
              ⟨((Keep.refl _ _).alloc _ (fun _ h => h)).setRow _ (by simp), heap_setRow (heap_alloc_new wc _) _, by simp⟩ ?_
            rintro wd ⟨kd', ry0, zy⟩
            obtain ⟨Y, hY⟩ : ∃ Y, Y = wc.heap.size := ⟨_, rfl⟩
            rw [← hY] at ry0 zy ⊢
            have HSD := hid (HSC.out.step kd')
            have KD := hid (KC.out.trans (kd'.mono (fun b h => Nat.lt_of_lt_of_le h KC.out.size)))
            have HYZ := hid (And.intro ry0 (And.intro ((kd'.block Z HZC.out.2).trans HZC.out.1) (And.intro zy (Nat.lt_of_lt_of_le HZC.out.2 kd'.size))))
            have HGD := hid ((HGR.out.keep (q := fun b => b < wc.heap.size) kd' (fun _ h => h.1)).lt)
            have HHD := hid ((HR0.out.keep HSD.out.keep (fun _ h => h)).lt)
            clear kd' ry0 zy hY HSC gold g1
            cases T with
            | false =>
              simp only [Bool.false_eq_true, if_false]
              go_wp2_with fail
              refine (NUM.out _ KD.out).2.2.mono ?_
              rintro e we ⟨rfl, ke⟩
              have HSE := hid (HSD.out.step ke)
              have KE := hid (KD.out.trans (ke.mono (fun b h => Nat.lt_of_lt_of_le h KD.out.size)))
              have HYZ' := hid (And.intro ((ke.block Y HYZ.out.2.2.1).trans HYZ.out.1) ((ke.block Z HYZ.out.2.2.2).trans HYZ.out.2.1))
              have SAME := hid (same_walk r0 (.slice ga r0.races.length gc) (.slice ha r0.races.length hc) we _ _ (HGD.out.keep (q := fun b => b < wd.heap.size) ke (fun _ h => h.1)) (HHD.out.keep (q := fun b => b < wd.heap.size) ke (fun _ h => h.1)))
              clear ke HSD KD
              go_wp2_with (first
                | (refine wpList_load_row_if (by rfl) 26 (.tmp 13) rfl Y rfl 26 _ (0, 0) _ HYZ'.out.1 Tryd.underlying26 rfl (by rw [List.size_toArray]; exact gi) ?_)
                | (refine wpList_load_row_if (by rfl) 26 (.tmp 9) rfl Z rfl 26 _ (0, 0) _ HYZ'.out.2 Tryd.underlying26 rfl (by rw [List.size_toArray]; exact gi0) ?_))
              refine SAME.out.mono ?_
              rintro e wf ⟨rfl, kf⟩
              have HF := hid (HSE.out.step kf)
              have KF := hid (KE.out.trans (kf.mono (fun b h => Nat.lt_of_lt_of_le h KE.out.size)))
              clear kf HSE SAME
              go_upto_region 42 with fail
              have HG := hid (show m.map (·.1) = ks ∧ m.length ≤ 8 ∧ (∀ p ∈ m, p.1 ≤ last) ∧ (∀ k r, f k = some r → r.races.length ≤ 1000000) ∧ (0 ≤ last ∧ last ≤ i + 1 ∧ (i : Int) ≤ 100) ∧ mh.length ≤ i + 1 from ⟨HKS.out.1, HKS.out.2.1, HKS.out.2.2.1, HKS.out.2.2.2, ⟨hlw.1, by omega, hi100⟩, by omega⟩)
              go_wp2_with fail
              refine (slist_walk S M last m _ HF.out.sto (by have := HG.out.2.1; omega)).mono ?_
              rintro e wl ⟨lv, rfl, hlr, hlo, kl⟩
              have hk1 := HG.out.1
              have HFL := hid (HF.out.step kl)
              have KL := hid (KF.out.trans (kl.mono (fun b h => Nat.lt_of_lt_of_le h KF.out.size)))
              rw [hk1] at hlr
              have HSM := hid (sameInts_walk _ _ ks wl _ _ hlr.cells HFL.out.num.cells)
              clear hlr hlo kl hk1 HF KF
              go_wp2_with fail
              refine HSM.out.mono ?_
              rintro e wm ⟨rfl, km⟩
              have HFM := hid (HFL.out.step (km.mono (fun _ _ => trivial)))
              have KM := hid (KL.out.trans (km.mono (fun _ _ => trivial)))
              have hlk : ks.length = (m).length := by rw [← HG.out.1, List.length_map]
              have hm8' := HG.out.2.1
              obtain ⟨tf, htf⟩ : ∃ tf, decide (8 ≤ (m).length) = tf := ⟨_, rfl⟩
              have HTF := hid htf
              have et : (((ks.length : Nat) : Int) == 8) = tf := by
                rw [← htf, hlk]
                by_cases h : (m).length = 8
                · simp [h]
                · have h1 : ¬ 8 ≤ (m).length := by omega
                  simp [h1]; omega
              have ef : (tf != tf) = false := by simp
              clear km htf hlk hm8' HSM HFL KL
              go_wp2_with fail
              refine (sfull_walk S M last m tf wm HFM.out.sto HTF.out).mono ?_
              rintro e wn ⟨rfl, rfl⟩
              go_wp2_with fail
              go_roundg (gk - 1)
              case measure => have := HIK.out; have := HIM.out; omega
              case rel => exact ⟨i + 1, last, m, mh, f, ks, _, by have := HIK.out; have := HIM.out; omega, by go_num, rfl, rfl, HFM.out, HG.out.1, HG.out.2.1, by have := HG.out.2.2.2.2.2; omega, by have := HG.out.2.2.2.2.1; omega, HG.out.2.2.1, HG.out.2.2.2.1⟩
            | true =>
              simp only [if_true]
              have SAME := hid (same_walk r0 (.slice ga r0.races.length gc) (.slice ha r0.races.length hc) wd _ _ HGD.out HHD.out)
              go_wp2_with (first
                | (refine wpList_load_row_if (by rfl) 26 (.tmp 13) rfl Y rfl 26 _ (0, 0) _ HYZ.out.1 Tryd.underlying26 rfl (by rw [List.size_toArray]; exact gi) ?_)
                | (refine wpList_load_row_if (by rfl) 26 (.tmp 9) rfl Z rfl 26 _ (0, 0) _ HYZ.out.2.1 Tryd.underlying26 rfl (by rw [List.size_toArray]; exact gi0) ?_))
              refine SAME.out.mono ?_
              rintro e wf ⟨rfl, kf⟩
              have HF := hid (HSD.out.step kf)
              have KF := hid (KD.out.trans (kf.mono (fun b h => Nat.lt_of_lt_of_le h KD.out.size)))
              clear kf HSD SAME
              go_upto_region 42 with fail
              have HG := hid (show m.map (·.1) = ks ∧ m.length ≤ 8 ∧ (∀ p ∈ m, p.1 ≤ last) ∧ (∀ k r, f k = some r → r.races.length ≤ 1000000) ∧ (0 ≤ last ∧ last ≤ i + 1 ∧ (i : Int) ≤ 100) ∧ mh.length ≤ i + 1 from ⟨HKS.out.1, HKS.out.2.1, HKS.out.2.2.1, HKS.out.2.2.2, ⟨hlw.1, by omega, hi100⟩, by omega⟩)
              go_wp2_with fail
              refine (slist_walk S M last m _ HF.out.sto (by have := HG.out.2.1; omega)).mono ?_
              rintro e wl ⟨lv, rfl, hlr, hlo, kl⟩
              have hk1 := HG.out.1
              have HFL := hid (HF.out.step kl)
              have KL := hid (KF.out.trans (kl.mono (fun b h => Nat.lt_of_lt_of_le h KF.out.size)))
              rw [hk1] at hlr
              have HSM := hid (sameInts_walk _ _ ks wl _ _ hlr.cells HFL.out.num.cells)
              clear hlr hlo kl hk1 HF KF
              go_wp2_with fail
              refine HSM.out.mono ?_
              rintro e wm ⟨rfl, km⟩
              have HFM := hid (HFL.out.step (km.mono (fun _ _ => trivial)))
              have KM := hid (KL.out.trans (km.mono (fun _ _ => trivial)))
              have hlk : ks.length = (m).length := by rw [← HG.out.1, List.length_map]
              have hm8' := HG.out.2.1
              obtain ⟨tf, htf⟩ : ∃ tf, decide (8 ≤ (m).length) = tf := ⟨_, rfl⟩
              have HTF := hid htf
              have et : (((ks.length : Nat) : Int) == 8) = tf := by
                rw [← htf, hlk]
                by_cases h : (m).length = 8
                · simp [h]
                · have h1 : ¬ 8 ≤ (m).length := by omega
                  simp [h1]; omega
              have ef : (tf != tf) = false := by simp
              clear km htf hlk hm8' HSM HFL KL
              go_wp2_with fail
              refine (sfull_walk S M last m tf wm HFM.out.sto HTF.out).mono ?_
              rintro e wn ⟨rfl, rfl⟩
              go_wp2_with fail
              go_roundg (gk - 1)
              case measure => have := HIK.out; have := HIM.out; omega
              case rel => exact ⟨i + 1, last, m, mh, f, ks, _, by have := HIK.out; have := HIM.out; omega, by go_num, rfl, rfl, HFM.out, HG.out.1, HG.out.2.1, by have := HG.out.2.2.2.2.2; omega, by have := HG.out.2.2.2.2.1; omega, HG.out.2.2.1, HG.out.2.2.2.1⟩
          · go_upto_region 30 with fail
            go_wp2_with fail
            refine (sdelete_walk S M last m f n _ wb _ HSB.out.sto HSB.out.ent HWF.out (NONE.out _ KB.out).1 (NONE.out _ KB.out).2).mono ?_
            rintro e wc ⟨rfl, hs3, kc⟩
            rw [HV.out.2.2.2]
            have hne0 := HSB.out.ne
            have hw1 := K1.out.size
            have HSC := hid (HSB.out.del n hs3 kc)
            have KC := hid (KB.out.trans (kc.mono (fun b (h : b < w.heap.size) => ⟨Nat.lt_of_lt_of_le h KB.out.size, by omega⟩)))
            have HRC := hid (And.intro ((kc.block O ⟨HRZ.out.2.2.1, HNE.out.2.1⟩).trans HRZ.out.1) (Nat.lt_of_lt_of_le HRZ.out.2.2.1 kc.size))
            clear hs3 kc hne0 hw1 HSB bk bn
            obtain ⟨wo, rfl⟩ : ∃ wo : World, wo = wr := ⟨_, rfl⟩
            obtain ⟨gx, rfl⟩ : ∃ gx : Nat, gx = gk := ⟨_, rfl⟩
            cases T with
            | false =>
              simp only [Bool.false_eq_true, if_false]
              go_wp2_with fail
              refine (NUM.out _ KC.out).2.2.mono ?_
              rintro e wd ⟨rfl, kd'⟩
              have HSD := hid (HSC.out.step kd')
              have KD := hid (KC.out.trans (kd'.mono (fun b h => Nat.lt_of_lt_of_le h KC.out.size)))
              have HRD := hid (And.intro ((kd'.block O HRC.out.2).trans HRC.out.1) (Nat.lt_of_lt_of_le HRC.out.2 kd'.size))
              clear kd' HSC
              go_upto_region 33 with fail
              have dn : wd.cell? ⟨O, 1, none⟩ = some (.int .i64 n) := cell_at HRD.out.1 1
              go_upto_region 34 with (at_delete; refine wpList_idel rfl (.tmp 147) (.tmp 149) 107 26 rfl int_keys Tryd.underlying107 Mh mh rfl HSD.out.hmap n rfl HKY.out ?_; intro w6 hm6 hg6; have H6 := hid (And.intro hm6 hg6); clear hm6 hg6)
              have HSE := hid (HSD.out.hturn H6.out.1 H6.out.2 (HSD.out.hent.del n))
              have k6 : Keep (fun k => k < (wd).heap.size ∧ k ≠ Mh) wd w6 := (Keep.refl _ _).grown H6.out.2 (fun k hk => ⟨hk.1, fun e => hk.2 (by injection e)⟩)
              have hne0 := HSD.out.ne
              have hw1 := K1.out.size
              have KE := hid (KD.out.trans (k6.mono (fun b (h : b < w.heap.size) => ⟨Nat.lt_of_lt_of_le h KD.out.size, by omega⟩)))
              have HRE := hid (And.intro ((k6.block O ⟨HRD.out.2, HNE.out.2.2.1⟩).trans HRD.out.1) (Nat.lt_of_lt_of_le HRD.out.2 k6.size))
              clear k6 dn hne0 hw1
              go_upto_region 35 with fail
              refine wp_world (fun wl => Keep (· < w6.heap.size) w6 wl ∧ Row wl 3 (.slice (some ⟨w6.heap.size, 0, none⟩) 0 0) [] ∧ w6.heap.size < wl.heap.size) ⟨(Keep.refl _ _).alloc _ (fun _ h => h), row_of_block (w := w6.alloc (.cells #[] 3)) (b := w6.heap.size) (E := 3) (cs := []) (heap_alloc_new w6 _) (by decide), by simp⟩ ?_
              rintro wl ⟨kl, rl, zl⟩
              have HL6 := hid (And.intro kl (And.intro rl zl))
              clear kl rl zl HSD
              go_wp2_with fail
              go_loopg [16, 153] ks.length (fun k s16 s153 wx => ∃ (j : Nat) (lv : Value), j + k = ks.length ∧ s153 = .int .i64 (j : Int) ∧ s16 = lv ∧ Row wx 3 lv (((ks.take j).filter (fun y => !(y == n))).map (Value.int .i64)) ∧ (∀ b, lv.ownBlock = some b → w6.heap.size ≤ b) ∧ Keep (· < w6.heap.size) w6 wx)
              case atStart => exact ⟨0, _, by omega, rfl, rfl, HL6.out.2.1, fun b hb => by (have hb' : w6.heap.size = b := Option.some.inj hb; omega), HL6.out.1⟩
              case round =>
                obtain ⟨j, lv, hjk, rfl, rfl, hrow, hown, hkx⟩ := hrel
                by_cases hlj : j < ks.length
                · have j0 : (j : Int) < (ks.length : Int) := by omega
                  obtain ⟨nb, no, hna, _, hnc⟩ := cells_blk HSE.out.num.cells (by rw [List.length_map]; omega)
                  subst hna
                  have hnb := HSE.out.num.lt (k := nb) rfl
                  obtain ⟨z, hz⟩ : ∃ z, ks[j] = z := ⟨_, rfl⟩
                  have cz : wr.cell? ⟨nb, no + j, none⟩ = some (.int .i64 z) := (hkx.cell (x := ⟨nb, no + j, none⟩) hnb).trans (by rw [hnc j (by rw [List.length_map]; exact hlj), List.getElem?_map, List.getElem?_eq_getElem hlj, hz]; rfl)
                  have cn' : wr.cell? ⟨O, 1, none⟩ = some (.int .i64 n) := (hkx.cell (x := ⟨O, 1, none⟩) HRE.out.2).trans (cell_at HRE.out.1 1)
                  have hft := filter_take ks j hlj (fun y => !(y == n))
                  rw [hz] at hft
                  obtain ⟨la, lc, rfl⟩ := hrow.form
                  rw [List.length_map] at hrow hown ⊢
                  have HJ := hid (And.intro hrow (And.intro hown (And.intro hkx (And.intro hft (And.intro hjk hlj)))))
                  have hfl : (List.filter (fun y => !(y == n)) (ks.take j)).length ≤ 8 := Nat.le_trans (List.length_filter_le _ _) (by rw [List.length_take]; omega)
                  have HFLN := hid hfl
                  obtain ⟨fs, hfs⟩ : ∃ fs, List.filter (fun y => !(y == n)) (ks.take j) = fs := ⟨_, rfl⟩
                  rw [hfs] at HJ HFLN ⊢
                  have HFS := hid hfs
                  clear hrow hown hkx hft hnc hnb hz hjk hlj hfl hfs
                  by_cases hzn : z = n
                  · have tz : (z != n) = false := by simp [hzn]
                    have HZN := hid (show (!(z == n)) = false by simp [hzn])
                    clear hzn
                    go_wp2_with fail
                    go_roundg (gk - 1)
                    case measure => have := HJ.out; omega
                    case rel => exact ⟨j + 1, _, by have := HJ.out; omega, by go_num, rfl, by rw [HJ.out.2.2.2.1, HZN.out]; simpa using HJ.out.1, HJ.out.2.1, HJ.out.2.2.1⟩
                  · have tz : (z != n) = true := by simp [hzn]
                    have HZN := hid (show (!(z == n)) = true by simp [hzn])
                    have HAP := hid (fun ty : TypeId => int_append_one wr ty _ z fs HJ.out.1 (by have := HFLN.out; omega))
                    clear hzn
                    go_wp2_with (at_builtin; refine wpList_app rfl (.tmp 161) (.tmp 163) 76 76 rfl _ (HAP.out _) ?_; rintro v7 w7 ⟨r7, k7, o7⟩; have H7 := hid (And.intro r7 (And.intro k7 o7)); clear r7 k7 o7)
                    go_roundg (gk - 1)
                    case measure => have := HJ.out; omega
                    case rel => exact ⟨j + 1, _, by have := HJ.out; omega, by go_num, rfl, by rw [HJ.out.2.2.2.1, HZN.out]; simpa using H7.out.1, fun b hb => by
                        rcases H7.out.2.2 b hb with h | h
                        · exact HJ.out.2.1 b h
                        · exact Nat.le_trans HJ.out.2.2.1.size h, HJ.out.2.2.1.trans (H7.out.2.1.mono (fun b (h : b < w6.heap.size) => ⟨Nat.lt_of_lt_of_le h HJ.out.2.2.1.size, fun e => by have := HJ.out.2.1 b e; omega⟩))⟩
                · obtain rfl : j = ks.length := by omega
                  rw [List.take_length] at hrow
                  obtain ⟨ks', hks'⟩ : ∃ ks', List.filter (fun y => !(y == n)) ks = ks' := ⟨_, rfl⟩
                  rw [hks'] at hrow
                  obtain ⟨la, lc, rfl⟩ := hrow.form
                  rw [List.length_map] at hrow hown ⊢
                  have hl6 := HSE.out.sto.lt
                  have hm6 := HSE.out.hmap.lt
                  have HSX := hid (HSE.out.step hkx)
                  have KF := hid (KE.out.trans (hkx.mono (fun b h => Nat.lt_of_lt_of_le h KE.out.size)))
                  have hen := HSE.out.ent.keep2 (p' := fun b => b < w6.heap.size ∧ b ≠ S ∧ b ≠ M ∧ b ≠ Mh) hkx (fun b hb hp => ⟨hb, hb, hp.1, hp.2.1, hp.2.2.1⟩)
                  have HF := hid (HSX.out.swap hrow hown ⟨hl6.1, hl6.2, hm6⟩ hen)
                  have HG := hid (show (mdel m n).map (·.1) = ks' ∧ (mdel m n).length ≤ 8 ∧ (∀ p ∈ mdel m n, p.1 ≤ last) ∧ (∀ k r', (if n = k then none else f k) = some r' → r'.races.length ≤ 1000000) ∧ (0 ≤ last ∧ last ≤ i + 1 ∧ (i : Int) ≤ 100) ∧ (mdel mh n).length ≤ i + 1 from ⟨by rw [keys_del, HKS.out.1, hks'], Nat.le_trans (length_del_le _ _) HKS.out.2.1, fun p hp => HKS.out.2.2.1 p (List.mem_filter.1 hp).1, fun k r' hk => by
                      split at hk
                      · cases hk
                      · exact HKS.out.2.2.2 k r' hk, ⟨hlw.1, by omega, hi100⟩, Nat.le_trans (length_del_le _ _) (by omega)⟩)
                  clear hrow hown hkx hjk hlj hl6 hm6 HSX hen hks' HSE
                  go_upto_region 42 with fail
                  go_wp2_with fail
                  refine (slist_walk S M last (mdel m n) _ HF.out.sto (by have := HG.out.2.1; omega)).mono ?_
                  rintro e wl ⟨lv, rfl, hlr, hlo, kl⟩
                  have hk1 := HG.out.1
                  have HFL := hid (HF.out.step kl)
                  have KL := hid (KF.out.trans (kl.mono (fun b h => Nat.lt_of_lt_of_le h KF.out.size)))
                  rw [hk1] at hlr
                  have HSM := hid (sameInts_walk _ _ ks' wl _ _ hlr.cells HFL.out.num.cells)
                  clear hlr hlo kl hk1 HF KF
                  go_wp2_with fail
                  refine HSM.out.mono ?_
                  rintro e wm ⟨rfl, km⟩
                  have HFM := hid (HFL.out.step (km.mono (fun _ _ => trivial)))
                  have KM := hid (KL.out.trans (km.mono (fun _ _ => trivial)))
                  have hlk : ks'.length = ((mdel m n)).length := by rw [← HG.out.1, List.length_map]
                  have hm8' := HG.out.2.1
                  obtain ⟨tf, htf⟩ : ∃ tf, decide (8 ≤ ((mdel m n)).length) = tf := ⟨_, rfl⟩
                  have HTF := hid htf
                  have et : (((ks'.length : Nat) : Int) == 8) = tf := by
                    rw [← htf, hlk]
                    by_cases h : ((mdel m n)).length = 8
                    · simp [h]
                    · have h1 : ¬ 8 ≤ ((mdel m n)).length := by omega
                      simp [h1]; omega
                  have ef : (tf != tf) = false := by simp
                  clear km htf hlk hm8' HSM HFL KL
                  go_wp2_with fail
                  refine (sfull_walk S M last (mdel m n) tf wm HFM.out.sto HTF.out).mono ?_
                  rintro e wn ⟨rfl, rfl⟩
                  go_wp2_with fail
                  go_roundg (gx - 1)
                  case measure => have := HIK.out; have := HIM.out; omega
                  case rel => exact ⟨i + 1, last, (mdel m n), (mdel mh n), (fun j => if n = j then none else f j), ks', _, by have := HIK.out; have := HIM.out; omega, by go_num, rfl, rfl, HFM.out, HG.out.1, HG.out.2.1, by have := HG.out.2.2.2.2.2; omega, by have := HG.out.2.2.2.2.1; omega, HG.out.2.2.1, HG.out.2.2.2.1⟩
            | true =>
              simp only [if_true]
              have HSD := HSC
              have KD := KC
              have HRD := HRC
              clear HSC
              go_upto_region 33 with fail
              have dn : wc.cell? ⟨O, 1, none⟩ = some (.int .i64 n) := cell_at HRD.out.1 1
              go_upto_region 34 with (at_delete; refine wpList_idel rfl (.tmp 147) (.tmp 149) 107 26 rfl int_keys Tryd.underlying107 Mh mh rfl HSD.out.hmap n rfl HKY.out ?_; intro w6 hm6 hg6; have H6 := hid (And.intro hm6 hg6); clear hm6 hg6)
              have HSE := hid (HSD.out.hturn H6.out.1 H6.out.2 (HSD.out.hent.del n))
              have k6 : Keep (fun k => k < (wc).heap.size ∧ k ≠ Mh) wc w6 := (Keep.refl _ _).grown H6.out.2 (fun k hk => ⟨hk.1, fun e => hk.2 (by injection e)⟩)
              have hne0 := HSD.out.ne
              have hw1 := K1.out.size
              have KE := hid (KD.out.trans (k6.mono (fun b (h : b < w.heap.size) => ⟨Nat.lt_of_lt_of_le h KD.out.size, by omega⟩)))
              have HRE := hid (And.intro ((k6.block O ⟨HRD.out.2, HNE.out.2.2.1⟩).trans HRD.out.1) (Nat.lt_of_lt_of_le HRD.out.2 k6.size))
              clear k6 dn hne0 hw1
              go_upto_region 35 with fail
              refine wp_world (fun wl => Keep (· < w6.heap.size) w6 wl ∧ Row wl 3 (.slice (some ⟨w6.heap.size, 0, none⟩) 0 0) [] ∧ w6.heap.size < wl.heap.size) ⟨(Keep.refl _ _).alloc _ (fun _ h => h), row_of_block (w := w6.alloc (.cells #[] 3)) (b := w6.heap.size) (E := 3) (cs := []) (heap_alloc_new w6 _) (by decide), by simp⟩ ?_
              rintro wl ⟨kl, rl, zl⟩
              have HL6 := hid (And.intro kl (And.intro rl zl))
              clear kl rl zl HSD
              go_wp2_with fail
              go_loopg [16, 153] ks.length (fun k s16 s153 wx => ∃ (j : Nat) (lv : Value), j + k = ks.length ∧ s153 = .int .i64 (j : Int) ∧ s16 = lv ∧ Row wx 3 lv (((ks.take j).filter (fun y => !(y == n))).map (Value.int .i64)) ∧ (∀ b, lv.ownBlock = some b → w6.heap.size ≤ b) ∧ Keep (· < w6.heap.size) w6 wx)
              case atStart => exact ⟨0, _, by omega, rfl, rfl, HL6.out.2.1, fun b hb => by (have hb' : w6.heap.size = b := Option.some.inj hb; omega), HL6.out.1⟩
              case round =>
                obtain ⟨j, lv, hjk, rfl, rfl, hrow, hown, hkx⟩ := hrel
                by_cases hlj : j < ks.length
                · have j0 : (j : Int) < (ks.length : Int) := by omega
                  obtain ⟨nb, no, hna, _, hnc⟩ := cells_blk HSE.out.num.cells (by rw [List.length_map]; omega)
                  subst hna
                  have hnb := HSE.out.num.lt (k := nb) rfl
                  obtain ⟨z, hz⟩ : ∃ z, ks[j] = z := ⟨_, rfl⟩
                  have cz : wr.cell? ⟨nb, no + j, none⟩ = some (.int .i64 z) := (hkx.cell (x := ⟨nb, no + j, none⟩) hnb).trans (by rw [hnc j (by rw [List.length_map]; exact hlj), List.getElem?_map, List.getElem?_eq_getElem hlj, hz]; rfl)
                  have cn' : wr.cell? ⟨O, 1, none⟩ = some (.int .i64 n) := (hkx.cell (x := ⟨O, 1, none⟩) HRE.out.2).trans (cell_at HRE.out.1 1)
                  have hft := filter_take ks j hlj (fun y => !(y == n))
                  rw [hz] at hft
                  obtain ⟨la, lc, rfl⟩ := hrow.form
                  rw [List.length_map] at hrow hown ⊢
                  have HJ := hid (And.intro hrow (And.intro hown (And.intro hkx (And.intro hft (And.intro hjk hlj)))))
                  have hfl : (List.filter (fun y => !(y == n)) (ks.take j)).length ≤ 8 := Nat.le_trans (List.length_filter_le _ _) (by rw [List.length_take]; omega)
                  have HFLN := hid hfl
                  obtain ⟨fs, hfs⟩ : ∃ fs, List.filter (fun y => !(y == n)) (ks.take j) = fs := ⟨_, rfl⟩
                  rw [hfs] at HJ HFLN ⊢
                  have HFS := hid hfs
                  clear hrow hown hkx hft hnc hnb hz hjk hlj hfl hfs
                  by_cases hzn : z = n
                  · have tz : (z != n) = false := by simp [hzn]
                    have HZN := hid (show (!(z == n)) = false by simp [hzn])
                    clear hzn
                    go_wp2_with fail
                    go_roundg (gk - 1)
                    case measure => have := HJ.out; omega
                    case rel => exact ⟨j + 1, _, by have := HJ.out; omega, by go_num, rfl, by rw [HJ.out.2.2.2.1, HZN.out]; simpa using HJ.out.1, HJ.out.2.1, HJ.out.2.2.1⟩
                  · have tz : (z != n) = true := by simp [hzn]
                    have HZN := hid (show (!(z == n)) = true by simp [hzn])
                    have HAP := hid (fun ty : TypeId => int_append_one wr ty _ z fs HJ.out.1 (by have := HFLN.out; omega))
                    clear hzn
                    go_wp2_with (at_builtin; refine wpList_app rfl (.tmp 161) (.tmp 163) 76 76 rfl _ (HAP.out _) ?_; rintro v7 w7 ⟨r7, k7, o7⟩; have H7 := hid (And.intro r7 (And.intro k7 o7)); clear r7 k7 o7)
                    go_roundg (gk - 1)
                    case measure => have := HJ.out; omega
                    case rel => exact ⟨j + 1, _, by have := HJ.out; omega, by go_num, rfl, by rw [HJ.out.2.2.2.1, HZN.out]; simpa using H7.out.1, fun b hb => by
                        rcases H7.out.2.2 b hb with h | h
                        · exact HJ.out.2.1 b h
                        · exact Nat.le_trans HJ.out.2.2.1.size h, HJ.out.2.2.1.trans (H7.out.2.1.mono (fun b (h : b < w6.heap.size) => ⟨Nat.lt_of_lt_of_le h HJ.out.2.2.1.size, fun e => by have := HJ.out.2.1 b e; omega⟩))⟩
                · obtain rfl : j = ks.length := by omega
                  rw [List.take_length] at hrow
                  obtain ⟨ks', hks'⟩ : ∃ ks', List.filter (fun y => !(y == n)) ks = ks' := ⟨_, rfl⟩
                  rw [hks'] at hrow
                  obtain ⟨la, lc, rfl⟩ := hrow.form
                  rw [List.length_map] at hrow hown ⊢
                  have hl6 := HSE.out.sto.lt
                  have hm6 := HSE.out.hmap.lt
                  have HSX := hid (HSE.out.step hkx)
                  have KF := hid (KE.out.trans (hkx.mono (fun b h => Nat.lt_of_lt_of_le h KE.out.size)))
                  have hen := HSE.out.ent.keep2 (p' := fun b => b < w6.heap.size ∧ b ≠ S ∧ b ≠ M ∧ b ≠ Mh) hkx (fun b hb hp => ⟨hb, hb, hp.1, hp.2.1, hp.2.2.1⟩)
                  have HF := hid (HSX.out.swap hrow hown ⟨hl6.1, hl6.2, hm6⟩ hen)
                  have HG := hid (show (mdel m n).map (·.1) = ks' ∧ (mdel m n).length ≤ 8 ∧ (∀ p ∈ mdel m n, p.1 ≤ last) ∧ (∀ k r', (if n = k then none else f k) = some r' → r'.races.length ≤ 1000000) ∧ (0 ≤ last ∧ last ≤ i + 1 ∧ (i : Int) ≤ 100) ∧ (mdel mh n).length ≤ i + 1 from ⟨by rw [keys_del, HKS.out.1, hks'], Nat.le_trans (length_del_le _ _) HKS.out.2.1, fun p hp => HKS.out.2.2.1 p (List.mem_filter.1 hp).1, fun k r' hk => by
                      split at hk
                      · cases hk
                      · exact HKS.out.2.2.2 k r' hk, ⟨hlw.1, by omega, hi100⟩, Nat.le_trans (length_del_le _ _) (by omega)⟩)
                  clear hrow hown hkx hjk hlj hl6 hm6 HSX hen hks' HSE
                  go_upto_region 42 with fail
                  go_wp2_with fail
                  refine (slist_walk S M last (mdel m n) _ HF.out.sto (by have := HG.out.2.1; omega)).mono ?_
                  rintro e wl ⟨lv, rfl, hlr, hlo, kl⟩
                  have hk1 := HG.out.1
                  have HFL := hid (HF.out.step kl)
                  have KL := hid (KF.out.trans (kl.mono (fun b h => Nat.lt_of_lt_of_le h KF.out.size)))
                  rw [hk1] at hlr
                  have HSM := hid (sameInts_walk _ _ ks' wl _ _ hlr.cells HFL.out.num.cells)
                  clear hlr hlo kl hk1 HF KF
                  go_wp2_with fail
                  refine HSM.out.mono ?_
                  rintro e wm ⟨rfl, km⟩
                  have HFM := hid (HFL.out.step (km.mono (fun _ _ => trivial)))
                  have KM := hid (KL.out.trans (km.mono (fun _ _ => trivial)))
                  have hlk : ks'.length = ((mdel m n)).length := by rw [← HG.out.1, List.length_map]
                  have hm8' := HG.out.2.1
                  obtain ⟨tf, htf⟩ : ∃ tf, decide (8 ≤ ((mdel m n)).length) = tf := ⟨_, rfl⟩
                  have HTF := hid htf
                  have et : (((ks'.length : Nat) : Int) == 8) = tf := by
                    rw [← htf, hlk]
                    by_cases h : ((mdel m n)).length = 8
                    · simp [h]
                    · have h1 : ¬ 8 ≤ ((mdel m n)).length := by omega
                      simp [h1]; omega
                  have ef : (tf != tf) = false := by simp
                  clear km htf hlk hm8' HSM HFL KL
                  go_wp2_with fail
                  refine (sfull_walk S M last (mdel m n) tf wm HFM.out.sto HTF.out).mono ?_
                  rintro e wn ⟨rfl, rfl⟩
                  go_wp2_with fail
                  go_roundg (gx - 1)
                  case measure => have := HIK.out; have := HIM.out; omega
                  case rel => exact ⟨i + 1, last, (mdel m n), (mdel mh n), (fun j => if n = j then none else f j), ks', _, by have := HIK.out; have := HIM.out; omega, by go_num, rfl, rfl, HFM.out, HG.out.1, HG.out.2.1, by have := HG.out.2.2.2.2.2; omega, by have := HG.out.2.2.2.2.1; omega, HG.out.2.2.1, HG.out.2.2.2.1⟩
          · have HF := HSB
            have KF := KB
            have HG := hid (show m.map (·.1) = ks ∧ m.length ≤ 8 ∧ (∀ p ∈ m, p.1 ≤ last) ∧ (∀ k r, f k = some r → r.races.length ≤ 1000000) ∧ (0 ≤ last ∧ last ≤ i + 1 ∧ (i : Int) ≤ 100) ∧ mh.length ≤ i + 1 from ⟨HKS.out.1, HKS.out.2.1, HKS.out.2.2.1, HKS.out.2.2.2, ⟨hlw.1, by omega, hi100⟩, by omega⟩)
            go_upto_region 42 with fail
            go_wp2_with fail
            refine (slist_walk S M last m _ HF.out.sto (by have := HG.out.2.1; omega)).mono ?_
            rintro e wl ⟨lv, rfl, hlr, hlo, kl⟩
            have hk1 := HG.out.1
            have HFL := hid (HF.out.step kl)
            have KL := hid (KF.out.trans (kl.mono (fun b h => Nat.lt_of_lt_of_le h KF.out.size)))
            rw [hk1] at hlr
            have HSM := hid (sameInts_walk _ _ ks wl _ _ hlr.cells HFL.out.num.cells)
            clear hlr hlo kl hk1 HF KF
            go_wp2_with fail
            refine HSM.out.mono ?_
            rintro e wm ⟨rfl, km⟩
            have HFM := hid (HFL.out.step (km.mono (fun _ _ => trivial)))
            have KM := hid (KL.out.trans (km.mono (fun _ _ => trivial)))
            have hlk : ks.length = (m).length := by rw [← HG.out.1, List.length_map]
            have hm8' := HG.out.2.1
            obtain ⟨tf, htf⟩ : ∃ tf, decide (8 ≤ (m).length) = tf := ⟨_, rfl⟩
            have HTF := hid htf
            have et : (((ks.length : Nat) : Int) == 8) = tf := by
              rw [← htf, hlk]
              by_cases h : (m).length = 8
              · simp [h]
              · have h1 : ¬ 8 ≤ (m).length := by omega
                simp [h1]; omega
            have ef : (tf != tf) = false := by simp
            clear km htf hlk hm8' HSM HFL KL
            go_wp2_with fail
            refine (sfull_walk S M last m tf wm HFM.out.sto HTF.out).mono ?_
            rintro e wn ⟨rfl, rfl⟩
            go_wp2_with fail
            go_roundg (gk - 1)
            case measure => have := HIK.out; have := HIM.out; omega
            case rel => exact ⟨i + 1, last, m, mh, f, ks, _, by have := HIK.out; have := HIM.out; omega, by go_num, rfl, rfl, HFM.out, HG.out.1, HG.out.2.1, by have := HG.out.2.2.2.2.2; omega, by have := HG.out.2.2.2.2.1; omega, HG.out.2.2.1, HG.out.2.2.2.1⟩
    · obtain rfl : i = ops.length := by omega
      clear hlt hik
      go_wp2_with fail
      go_ret
      exact ⟨rfl, KW.out⟩
end Go.Proofs.YtnpneippahdigaaDoor
