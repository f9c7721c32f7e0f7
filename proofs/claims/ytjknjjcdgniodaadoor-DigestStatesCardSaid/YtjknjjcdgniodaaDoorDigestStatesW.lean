/-
  Step by step: the statement 'DigestStates'.
-/
import Derived.Test.YtjknjjcdgniodaaDoorStatesK
import Derived.Test.YtjknjjcdgniodaaDoorRefOf
import Derived.Test.YtjknjjcdgniodaaDoorAlive
import Derived.Test.YtjknjjcdgniodaaDoorLen
import Derived.Test.YtjknjjcdgniodaaDoorBytesK
import Derived.Test.YtjknjjcdgniodaaDoorTxt2
import Derived.Test.YtjknjjcdgniodaaDoorTxt3
import Derived.Test.YtjknjjcdgniodaaDoorIn5
import Derived.Test.YtjknjjcdgniodaaDoorDigestOfW
import Derived.Test.YtjknjjcdgniodaaDoorDrawNumbersW
import Derived.Deep.CutBlock
import Derived.LaidEqlPtr
import Derived.Lib.Builder
namespace Go.Proofs.YtjknjjcdgniodaaDoor
open Go.RowKit Go.Proofs.Mem

theorem push_alloc (w : World) (x : Value) (E : TypeId) : Keep (· < w.heap.size) w (w.alloc (.cells #[x] E)) ∧ Cells (w.alloc (.cells #[x] E)) (fun b => w.heap.size ≤ b ∧ b < (w.alloc (.cells #[x] E)).heap.size) (.slice (some ⟨w.heap.size, 0, none⟩) 1 1) [x] := by
  refine ⟨(Keep.refl _ _).alloc _ (fun _ h => h), ?_⟩
  have := Cells.of_block (w := w.alloc (.cells #[x] E)) (b := w.heap.size) (off := 0) (n := 1) (cap := 1) (cur := [x]) (p := fun b => w.heap.size ≤ b ∧ b < (w.alloc (.cells #[x] E)).heap.size) (heap_alloc_new w _) ⟨Nat.le_refl _, by simp⟩ (Nat.le_refl _) (Nat.le_refl _) (by decide)
  simpa using this
theorem states_wrap (z y : Nat) (hz : z ≤ 9000) (hy : y ≤ 9223372036854775807) (h : ¬ z + y ≤ 9223372036854775807) : wrap64 ((z : Int) + (y : Int)) = (z : Int) + (y : Int) - 18446744073709551616 ∧ decide ((9000 : Int) < (z : Int) + (y : Int) - 18446744073709551616) = false ∧ decide ((z : Int) + (y : Int) - 18446744073709551616 < 0) = true := by
  refine ⟨?_, decide_eq_false ?_, decide_eq_true ?_⟩
  · unfold wrap64; omega
  · omega
  · omega
set_option maxRecDepth 100000 in
set_option maxHeartbeats 4000000 in
theorem digestStates_walk (v : Value) (L : Nat) (KK SS : Nat → Int) (BB : Nat → Value) (XX : Nat → List Nat) (w : World) (hT : TurnsAt w) (hv : IsOps w v L KK SS BB XX) :
    Calls Tryd.prog 7 #[v] w fun e w' => e = .returned (.bool true) ∧ Keep (· < w.heap.size) w w' := by
  have HT := hid hT
  have hgt := hT.lt
  clear hT
  obtain ⟨a0, c0, rfl, m0, q0, hcl⟩ := hv
  have q0' : c0 ≤ 9223372036854775807 := by simpa [maxLen] using q0
  have HCL := hid hcl
  clear q0 hcl
  go_enter Tryd.func7, Tryd.ntmps7
  go_wp2_with fail
  refine (alive3_walk w HT.out).mono ?_
  rintro e w1 ⟨rfl, k1⟩
  have H1 := hid k1
  have hz1 := k1.size
  clear k1
  go_wp2_with fail
  refine (refnew_walk w1).mono ?_
  rintro e w4 ⟨rfl, k4, h4⟩
  have H4 := hid (And.intro (H1.out.trans (k4.mono (fun k h => Nat.lt_of_lt_of_le h hz1))) h4)
  have hb4 := h4.lt
  clear k4 h4
  obtain ⟨hb, hhb⟩ : ∃ hb, w1.heap.size = hb := ⟨_, rfl⟩
  rw [hhb] at H4 hb4 hz1 ⊢
  clear hhb H1
  go_wp2_with fail
  refine (new_walk w4).mono ?_
  rintro e w5 ⟨rfl, k5, z5, h5⟩
  have h5s := States.one k5 z5 h5
  rw [z5] at h5s
  have H5 := hid h5s
  clear k5 h5 h5s
  go_upto_region 5 with (fail)
  refine wp_world (fun wx => States w4 wx [w4.heap.size] [[]] [[]] (.slice (some ⟨w4.heap.size + 1, 0, none⟩) 1 1) (.slice (some ⟨w4.heap.size + 1 + 1 + 1, 0, none⟩) 1 1) [.slice (some ⟨w4.heap.size + 1 + 1, 0, none⟩) 0 0]) H5.out ?_
  clear H5 z5
  rintro w6 h6
  have H6 := hid h6
  clear h6
  go_upto_block 0 with fail
  go_cut [4, 5] (fun s4 s5 wx => Hid (∃ bs xss ts, States w4 wx bs xss xss s4 s5 ts ∧ 1 ≤ bs.length ∧ bs.length ≤ 62 ∧ ∀ xs ∈ xss, xs.length ≤ 9000))
  case first =>
    go_wp2_with fail
    go_loopg [4, 5, 6, 25] L (fun k s4 s5 s6 s25 wr => ∃ i z : Nat, i + k = L ∧ s25 = .int .i64 (i : Int) ∧ s6 = .int .i64 (z : Int) ∧ i ≤ 61 ∧ z ≤ 9000 ∧ Hid (∃ bs xss ts, States w4 wr bs xss xss s4 s5 ts ∧ 1 ≤ bs.length ∧ bs.length ≤ i + 1 ∧ ∀ xs ∈ xss, xs.length ≤ z))
    case atStart => exact ⟨0, 0, by omega, rfl, rfl, by decide, by decide, hid ⟨_, _, _, H6.out, Nat.le_refl _, Nat.le_refl _, by simp⟩⟩
    case round =>
      clear H6
      obtain ⟨i, z, hi, rfl, rfl, hi61, hz, HH⟩ := hrel
      by_cases hiL : i < L
      · obtain ⟨blk, off, rfl, hbl, ck, cs, cb, ws, hxb, hcb⟩ := HCL.out i hiL
        obtain ⟨bs, xss, ts, hS, hn1, hn2, hlz⟩ := HH.out
        have kw : Keep (· < w.heap.size) w wr := H4.out.1.trans (hS.kp.mono (fun k h => by have := H4.out.1.size; omega))
        obtain ⟨kv, hkv⟩ : ∃ kv, KK i = kv := ⟨_, rfl⟩
        obtain ⟨sv, hsv⟩ : ∃ sv, SS i = sv := ⟨_, rfl⟩
        obtain ⟨bv, hbv⟩ : ∃ bv, BB i = bv := ⟨_, rfl⟩
        obtain ⟨ys, hys⟩ : ∃ ys, XX i = ys := ⟨_, rfl⟩
        rw [hkv] at ck
        rw [hsv] at cs ws
        rw [hbv] at cb hcb
        rw [hys] at hxb hcb
        have ck' : wr.cell? ⟨blk, off + i * 3, none⟩ = some (.int .i64 kv) := (kw.cell (x := ⟨blk, off + i * 3, none⟩) hbl).trans ck
        have cs' : wr.cell? ⟨blk, off + i * 3 + 1, none⟩ = some (.int .i64 sv) := (kw.cell (x := ⟨blk, off + i * 3 + 1, none⟩) hbl).trans cs
        have cb' : wr.cell? ⟨blk, off + i * 3 + 2, none⟩ = some bv := (kw.cell (x := ⟨blk, off + i * 3 + 2, none⟩) hbl).trans cb
        have hsr : -9223372036854775808 ≤ sv ∧ sv ≤ 9223372036854775807 := by simp [Lit.wf, IntKind.min, IntKind.max, IntKind.signed, IntKind.bits] at ws; omega
        have l0 : (i : Int) < (L : Int) := by omega
        obtain ⟨ba, bn, bc, rfl, ebn, mbn, qbn, _⟩ := id hcb
        rw [ints_length] at ebn
        subst ebn
        have qbn' : bc ≤ 9223372036854775807 := by simpa [maxLen] using qbn
        have HX := hid (And.intro hxb hcb)
        have HS := hid (And.intro hS (And.intro hlz kw))
        clear ck cs cb ws hkv hsv hbv hys hxb hcb HH hS hlz kw qbn
        go_upto_region 9 with (fail)
        have HS0 := HS.out.1.keep ((Keep.refl _ wr).alloc (.cells #[.int .i64 kv, .int .i64 sv, .slice ba ys.length bc] 46) (fun _ h => h))
        refine wp_world (fun w7 => States w4 w7 bs xss xss u4 u5 ts ∧ w7.heap[wr.heap.size]? = some (.cells [.int .i64 kv, .int .i64 sv, .slice ba ys.length bc].toArray 46 (0, 0)) ∧ Keep (· < wr.heap.size) wr w7) ⟨HS0, heap_alloc_new wr _, (Keep.refl _ wr).alloc _ (fun _ h => h)⟩ ?_
        clear HS0 ck' cs' cb'
        rintro w7 ⟨hs, h7, k7⟩
        have hbo : ∀ b, b ∈ bs → b < wr.heap.size := fun b hb => (HS.out.1.bB b hb).2
        obtain ⟨o, ho⟩ : ∃ o, wr.heap.size = o := ⟨_, rfl⟩
        rw [ho] at h7 hbo ⊢
        have HBO := hid hbo
        have H7 := hid h7
        have HK7 := hid (HS.out.2.2.trans (k7.mono (fun k h => Nat.lt_of_lt_of_le h HS.out.2.2.size)))
        have cK : w7.cell? ⟨o, 0, none⟩ = some (.int .i64 kv) := cell_at h7 0
        have cO : w7.cell? ⟨o, 1, none⟩ = some (.int .i64 sv) := cell_at h7 1
        have cB : w7.cell? ⟨o, 2, none⟩ = some (.slice ba ys.length bc) := cell_at h7 2
        have ho7 : o < w7.heap.size := (Array.getElem?_eq_some_iff.1 h7).1
        have HL := hid HS.out.2.1
        have HS7 := hid hs
        clear HS hs h7 ho hbo k7
        have stop : ∀ wx, wx = w7 → Hid (∃ bs xss ts, States w4 wx bs xss xss u4 u5 ts ∧ 1 ≤ bs.length ∧ bs.length ≤ 62 ∧ ∀ xs ∈ xss, xs.length ≤ 9000) := by
          rintro wx rfl
          exact hid ⟨bs, xss, ts, HS7.out, hn1, by omega, fun xs hx => by have := HL.out xs hx; omega⟩
        have STOP := hid stop
        clear stop
        by_cases h60 : 60 < i
        · have t1 : decide ((60 : Int) < (i : Int)) = true := by simp; omega
          go_wp2_with fail
          go_meet
          case rel => exact STOP.out _ rfl
        have t1 : decide ((60 : Int) < (i : Int)) = false := by simp; omega
        by_cases hov : z + ys.length ≤ 9223372036854775807
        · obtain ⟨m, hm⟩ : ∃ m, z + ys.length = m := ⟨_, rfl⟩
          have em : (z : Int) + (ys.length : Int) = (m : Int) := by omega
          have HM := hid hm
          have hzm : z ≤ m := by omega
          have hym : ys.length ≤ m := by omega
          rw [hm] at hov
          clear hm
          by_cases h9 : 9000 < m
          · have t2 : decide ((9000 : Int) < (m : Int)) = true := by simp; omega
            go_wp2_with fail
            go_meet
            case rel => exact STOP.out _ rfl
          have t2 : decide ((9000 : Int) < (m : Int)) = false := by simp; omega
          have t3 : decide ((m : Int) < 0) = false := by simp
          clear STOP
          obtain ⟨gl, cl, rfl, hcl1, hcl2, hgl, hcl3, _⟩ := HS7.out.rl.blk (by rw [List.length_map]; omega)
          obtain ⟨gt, ct, rfl, hct1, hct2, hgt', hct3, hft⟩ := HS7.out.rt.blk (by rw [HS7.out.l3]; omega)
          have HCR := hid (And.intro hcl3 (And.intro hct3 hft))
          obtain ⟨n, hn⟩ : ∃ n, bs.length = n := ⟨_, rfl⟩
          have el : (bs.map ptr).length = n := by rw [List.length_map]; exact hn
          have et : ts.length = n := by rw [HS7.out.l3]; exact hn
          rw [hn] at hn1 hn2
          rw [el] at hcl1 ⊢
          rw [et] at hct1 ⊢
          have HN := hid (And.intro hn (And.intro el et))
          have hs7n := HS7.out
          rw [el, et] at hs7n
          have HS7 := hid hs7n
          clear hs7n
          clear hcl3 hct3 hft hn el et
          go_upto_region 12 with (fail)
          obtain ⟨k, hk, hkn⟩ := mod_t sv n hn1 (by omega)
          rw [hk]
          clear hk
          have hkn' : (k : Int) < (n : Int) := by omega
          obtain ⟨b, hbk⟩ : ∃ b, bs[k]? = some b := ⟨_, List.getElem?_eq_getElem (by rw [HN.out.1]; exact hkn)⟩
          obtain ⟨xs, hxk⟩ : ∃ xs, xss[k]? = some xs := ⟨_, List.getElem?_eq_getElem (by rw [HS7.out.l1, HN.out.1]; exact hkn)⟩
          obtain ⟨tv, htk⟩ : ∃ v, ts[k]? = some v := ⟨_, List.getElem?_eq_getElem (by rw [HN.out.2.2]; exact hkn)⟩
          have cL : w7.cell? ⟨gl, k, none⟩ = some (.pointer (some ⟨b, 0, none⟩)) := by
            rw [HCR.out.1 k (by rw [HN.out.2.1]; exact hkn), List.getElem?_map, hbk]; rfl
          have cT : w7.cell? ⟨gt, k, none⟩ = some tv := by rw [HCR.out.2.1 k (by rw [HN.out.2.2]; exact hkn), htk]
          have fT : w7.frozen? ⟨gt, k, none⟩ = false := HCR.out.2.2 k
          have hxc := HS7.out.tk k tv xs htk hxk
          have hxl : xs.length ≤ z := HL.out xs (List.mem_of_getElem? hxk)
          have hxby : ∀ x ∈ xs, x < 256 := HS7.out.byt xs (List.mem_of_getElem? hxk)
          obtain ⟨ta, tn, tc, rfl, etn, _, _, _⟩ := id hxc
          rw [ints_length] at etn
          subst etn
          have hbm := HS7.out.bB b (List.mem_of_getElem? hbk)
          have hob : b ≠ o := Nat.ne_of_lt (HBO.out b (List.mem_of_getElem? hbk))
          have hglb : gl ≠ b := fun e => (HS7.out.ol gl rfl).2.1 (e ▸ List.mem_of_getElem? hbk)
          have hgtb : gt ≠ b := fun e => (HS7.out.ot gt rfl).2 (e ▸ List.mem_of_getElem? hbk)
          have hgol : gl < w7.heap.size := HS7.out.rl.lt rfl
          have hgot : gt < w7.heap.size := HS7.out.rt.lt rfl
          have HXK := hid (And.intro hbk (And.intro hxk (And.intro htk hxby)))
          have HXC := hid hxc
          have hOB : Cells w7 (fun j => j < w.heap.size) (.slice ba ys.length bc) (ints .u8 ys) := (HX.out.2.lt.mono (fun k h => h.1)).keep HK7.out (fun _ h => h)
          have HOB := hid hOB
          have hw7 := HK7.out.size
          have hglne : w.heap.size ≤ b := by have := H4.out.1.size; omega
          clear hbk hxk htk hxby hxc hOB
          by_cases z1 : kv = 1
          · subst z1
            go_wp2_with fail
            refine (bytes_walk _ ys w7 _ (by omega) HOB.out).mono ?_
            rintro e w8 ⟨vi, rfl, k8, hm8⟩
            have cL8 : w8.cell? ⟨gl, k, none⟩ = some (.pointer (some ⟨b, 0, none⟩)) := (k8.cell (x := ⟨gl, k, none⟩) hgol).trans cL
            have cB8 : w8.cell? ⟨o, 2, none⟩ = some (.slice ba ys.length bc) := (k8.cell (x := ⟨o, 2, none⟩) ho7).trans cB
            have HS8 := hid (HS7.out.keep k8)
            have HK8 := hid (And.intro k8 hm8)
            have hz8 := k8.size
            clear k8 hm8
            go_wp2_with fail
            obtain ⟨jS, hjS⟩ : ∃ j, Tryd.prog.info? 84 = some j := Option.isSome_iff_exists.1 (by kernel_rfl)
            have neP := fun w0 => Lib.run_neq_ptr_same (P := Tryd.prog) w0 (tp := 29) ⟨b, 0, none⟩ Tryd.underlying29 hjS
            refine Txt.wp_region_text [true, true, true, true, true, false, true, true, true, true, true, true, true, true, true, false, true, true] (fun wx => wx.cell? ⟨gl, k, none⟩ = some (.pointer (some ⟨b, 0, none⟩)) ∧ wx.cell? ⟨o, 2, none⟩ = some (.slice ba ys.length bc)) (by kernel_rfl) (by kernel_rfl) ⟨cL8, cB8⟩ ?_
            iterate 3 (refine Txt.text_free rfl (fun K hK => ?_); go_simp; refine hK _ ?_; clear hK K)
            refine Txt.text_held (.pointer (some ⟨b, 0, none⟩)) rfl (fun w0 h0 => by have := h0.1; go_simp) (fun K hK => hK _ ?_)
            iterate 1 (refine Txt.text_free rfl (fun K hK => ?_); go_simp; refine hK _ ?_; clear hK K)
            refine Txt.text_chain rfl (fun K hK => ?_)
            go_simp
            have kd8 : Keep (fun _ => True) w8 w8.drew := (Keep.refl _ _).drew
            refine (take_walk b (Sha.St.new.take xs) vi ys w8.drew (take_good new_good HXK.out.2.2.2) (by rw [Sha.take_n]; have : Sha.St.new.n = 0 := rfl; omega) HX.out.1 (HT.out.keep (HK7.out.trans ((HK8.out.1.mono (fun k h => Nat.lt_of_lt_of_le h hw7)).drew)) HT.out.lt) ((kd8.block b trivial).trans (HS8.out.st k b xs HXK.out.1 HXK.out.2.1)) ((HK8.out.2.cells.keep kd8 (fun _ _ => trivial)).mono (fun j hj => by omega))).mono ?_
            rintro e w9 ⟨rfl, k9, h9s⟩
            rw [← Sha.take_append] at h9s
            have k89 : Keep (fun j => j < w8.heap.size ∧ j ≠ b) w8 w9 := (kd8.mono (fun _ _ => trivial)).trans k9
            have HS9 := hid (HS8.out.take HXK.out.1 HXK.out.2.1 HX.out.1 k89 h9s)
            have cL9 : w9.cell? ⟨gl, k, none⟩ = some (.pointer (some ⟨b, 0, none⟩)) := (k89.cell (x := ⟨gl, k, none⟩) (by show gl < _ ∧ gl ≠ b; omega)).trans cL8
            have cB9 : w9.cell? ⟨o, 2, none⟩ = some (.slice ba ys.length bc) := (k89.cell (x := ⟨o, 2, none⟩) (by show o < _ ∧ o ≠ b; omega)).trans cB8
            have HM9 := hid (HK8.out.2.keep k89 (fun j h1 h2 => ⟨h2, by omega⟩))
            have HK9 := hid ((HK7.out.trans (HK8.out.1.mono (fun k h => Nat.lt_of_lt_of_le h hw7))).trans (k89.mono (fun j h => ⟨by omega, by omega⟩)))
            have hz9 := k89.size
            clear k9 h9s k89 kd8
            refine hK _ _ ⟨⟨cL9, cB9⟩, ?_⟩
            clear hK K
            iterate 3 (refine Txt.text_free rfl (fun K hK => ?_); go_simp; refine hK _ ?_; clear hK K)
            refine Txt.text_held (.pointer (some ⟨b, 0, none⟩)) rfl (fun w0 h0 => by have := h0.1; go_simp) (fun K hK => hK _ ?_)
            iterate 2 (refine Txt.text_free rfl (fun K hK => ?_); go_simp; refine hK _ ?_; clear hK K)
            iterate 2 (refine Txt.text_free_g (by rfl) (fun K hK => ?_); go_simp; refine hK _ ?_; clear hK K)
            refine Txt.text_held_g (.slice ba ys.length bc) (by rfl) (fun w0 h0 => by have := h0.2; go_simp) (fun K hK => hK _ ?_)
            refine Txt.text_chain_g (by rfl) (fun K hK => ?_)
            go_simp
            refine (kept_walk _ _ _ ys w9 _ (by omega) HM9.out ((HX.out.2.lt.mono (fun k h => h.1)).keep HK9.out (fun _ h => h))).mono ?_
            rintro e w10 ⟨rfl, k10⟩
            have HS10 := hid (HS9.out.keep (k10.mono (fun _ _ => trivial)))
            have cB10 : w10.cell? ⟨o, 2, none⟩ = some (.slice ba ys.length bc) := (k10.cell (x := ⟨o, 2, none⟩) trivial).trans cB9
            have HK10 := hid (HK9.out.trans (k10.mono (fun _ _ => trivial)))
            have hz10 := k10.size
            refine hK _ _ ⟨⟨(k10.cell (x := ⟨gl, k, none⟩) trivial).trans cL9, cB10⟩, ?_⟩
            clear hK K HM9 HS9 HS8 HK8 HK9 k10 cL8 cL9 cB8 cB9 HS7 HXC cT fT
            iterate 1 (refine Txt.text_free_g (by rfl) (fun K hK => ?_); go_simp; refine hK _ ?_; clear hK K)
            iterate 1 (refine Txt.text_free rfl (fun K hK => ?_); go_simp; refine hK _ ?_; clear hK K)
            refine Txt.text_done ?_
            obtain ⟨_, _, _, _, _, _, hct3', hft'⟩ := HS10.out.rt.blk (by rw [HN.out.2.2]; omega)
            have cT10 : w10.cell? ⟨gt, k, none⟩ = some (.slice ta xs.length tc) := by
              have := HS10.out.rt.blk (by rw [HN.out.2.2]; omega)
              obtain ⟨g', c', eg, _, _, _, h', _⟩ := this
              injection eg with eg _ _
              injection eg with eg
              injection eg with eg _ _
              subst eg
              rw [h' k (by rw [HN.out.2.2]; exact hkn), HXK.out.2.2.1]
            have HFT := hid (show w10.frozen? ⟨gt, k, none⟩ = false by
              obtain ⟨g', c', eg, _, _, _, _, h'⟩ := HS10.out.rt.blk (by rw [HN.out.2.2]; omega)
              injection eg with eg _ _
              injection eg with eg
              injection eg with eg _ _
              subst eg
              exact h' k)
            clear hct3' hft'
            have hgt10 : gt < w10.heap.size := HS10.out.rt.lt rfl
            have hgl10 : gl < w10.heap.size := HS10.out.rl.lt rfl
            have HXC10 := hid (HS10.out.tk k _ xs HXK.out.2.2.1 HXK.out.2.1)
            have ho10 : o < w10.heap.size := by omega
            go_wp2_with fail
            have S10 : w10.drew.cell? ⟨gt, k, none⟩ = some (.slice ta xs.length tc) ∧ w10.drew.cell? ⟨o, 2, none⟩ = some (.slice ba ys.length bc) := ⟨cT10, cB10⟩
            refine Txt.wp_region_text [true, true, false, true, true, true, true, false, true, true, false, true, false] (fun wx => wx.cell? ⟨gt, k, none⟩ = some (.slice ta xs.length tc) ∧ wx.cell? ⟨o, 2, none⟩ = some (.slice ba ys.length bc)) (by kernel_rfl) (by kernel_rfl) S10 ?_
            obtain ⟨i0, hi0, hz0, hs0, hb0⟩ := info_parts (show (Tryd.prog.info? 5).map (fun i => (i.zero, i.size, i.bytes)) = some (some (.int .u8 0), 1, 1) by kernel_rfl)
            iterate 2 (refine Txt.text_free rfl (fun K hK => ?_); go_simp; refine hK _ ?_; clear hK K)
            refine Txt.text_chain rfl (fun K hK => ?_)
            go_simp
            have ka : Keep (· < w10.heap.size) w10 (w10.drew.alloc (.cells #[] 5)) := (Keep.refl _ _).drew.alloc _ (fun _ h => h)
            refine hK _ _ ⟨⟨(ka.cell (x := ⟨gt, k, none⟩) hgt10).trans cT10, (ka.cell (x := ⟨o, 2, none⟩) ho10).trans cB10⟩, ?_⟩
            clear hK K ka
            iterate 3 (refine Txt.text_free rfl (fun K hK => ?_); go_simp; refine hK _ ?_; clear hK K)
            refine Txt.text_held (.slice ta xs.length tc) rfl (fun w0 h0 => by have := h0.1; go_simp) (fun K hK => hK _ ?_)
            refine Txt.text_app rfl (.tmp 80) (.tmp 84) 22 22 rfl _ (append_first (P := Tryd.prog) 22 5 i0 (.int .u8 0) 1 Tryd.underlying22 hi0 hz0 hs0 hb0 rfl w10.drew 22 _ (ints .u8 xs) (HXC10.out.keep ((Keep.refl (fun _ => True) _).drew) (fun _ _ => trivial)) (ints_one _ _) (by rw [ints_length]; omega)) ?_
            rintro v1 w11 ⟨own1, k11, hz11⟩
            have K11 := hid (show Keep (· < w10.heap.size) w10 w11 from (Keep.refl _ _).drew.trans k11)
            have hz11' : w10.heap.size ≤ w11.heap.size := hz11
            have cT11 : w11.cell? ⟨gt, k, none⟩ = some (.slice ta xs.length tc) := (K11.out.cell (x := ⟨gt, k, none⟩) hgt10).trans cT10
            have cB11 : w11.cell? ⟨o, 2, none⟩ = some (.slice ba ys.length bc) := (K11.out.cell (x := ⟨o, 2, none⟩) ho10).trans cB10
            refine ⟨⟨cT11, cB11⟩, ?_⟩
            iterate 1 (refine Txt.text_free rfl (fun K hK => ?_); go_simp; refine hK _ ?_; clear hK K)
            refine Txt.text_held (.slice ba ys.length bc) rfl (fun w0 h0 => by have := h0.2; go_simp) (fun K hK => hK _ ?_)
            refine Txt.text_app rfl (.tmp 85) (.tmp 87) 22 22 rfl _ (append_keep (P := Tryd.prog) 22 5 i0 (.int .u8 0) 1 Tryd.underlying22 hi0 hz0 hs0 hb0 rfl w11 22 w10.heap.size v1 (.slice ba ys.length bc) (ints .u8 xs) (ints .u8 ys) own1 ((HX.out.2.lt.mono (fun k h => h.1)).keep (HK10.out.trans (K11.out.mono (fun j h => by omega))) (fun _ h => h)) (ints_one _ _) (by rw [ints_length, ints_length]; omega) (by rw [ints_length, ints_length]; omega) hz11) ?_
            rintro v2 w12 ⟨own2, k12, hz12⟩
            have K12 := hid (K11.out.trans k12)
            have hc12 := owns_cells own2
            rw [← ints_append] at hc12
            clear own1 own2 k11 k12
            have cT12 : w12.cell? ⟨gt, k, none⟩ = some (.slice ta xs.length tc) := (K12.out.cell (x := ⟨gt, k, none⟩) hgt10).trans cT10
            have cB12 : w12.cell? ⟨o, 2, none⟩ = some (.slice ba ys.length bc) := (K12.out.cell (x := ⟨o, 2, none⟩) ho10).trans cB10
            have fT12 : w12.frozen? ⟨gt, k, none⟩ = false := (K12.out.frozen (x := ⟨gt, k, none⟩) hgt10).trans HFT.out
            refine ⟨⟨cT12, cB12⟩, ?_⟩
            iterate 1 (refine Txt.text_free rfl (fun K hK => ?_); go_simp; refine hK _ ?_; clear hK K)
            obtain ⟨va, vn, vc, rfl, evn, _, _, _⟩ := id hc12
            have HC12 := hid (And.intro hc12 evn)
            clear hc12 evn
            refine Txt.text_last rfl (fun K hK => ?_)
            go_simp
            refine hK _ _ ?_
            clear hK K
            have HS14 := hid ((HS10.out.keep K12.out).store (i := k) (by rw [HN.out.1]; exact hkn) (ys := xs ++ ys) (HC12.out.1.lt.mono (fun j hj => ⟨hj.1, by have := HS10.out.kp.size; have := hj.2; omega, fun hm => by have := (HS10.out.bB j hm).2; have := hj.2; omega, fun e => by have := HS10.out.rl.lt e; have := hj.2; omega, fun e => by have := HS10.out.rt.lt e; have := hj.2; omega⟩)))
            clear HC12 K12 K11
            go_wp2_with fail
            go_roundg (gk - 1)
            case measure => omega
            case rel =>
              refine ⟨i + 1, m, by omega, by go_num, rfl, by omega, by omega, hid ⟨bs, _, _, HS14.out, by rw [HN.out.1]; exact hn1, by rw [HN.out.1]; omega, fun xs' hx' => ?_⟩⟩
              rcases List.mem_or_eq_of_mem_set hx' with h | rfl
              · have := HL.out xs' h; omega
              · rw [List.length_append]; have := HM.out; omega
          have kk1 : (kv == 1) = false := by simpa using z1
          by_cases z2 : kv = 2
          · subst z2
            obtain ⟨jS, hjS, hjz⟩ : ∃ j, Tryd.prog.info? 84 = some j ∧ j.size = 73 := by
              have h : (Tryd.prog.info? 84).map (·.size) = some 73 := by kernel_rfl
              obtain ⟨j, h1, h2⟩ := Option.map_eq_some_iff.1 h
              exact ⟨j, h1, h2⟩
            go_wp2_with fail
            refine (copy_walk b (Sha.St.new.take xs) w7 (take_good new_good HXK.out.2.2.2) (HS7.out.st k b xs HXK.out.1 HXK.out.2.1)).mono ?_
            rintro e w8 ⟨rfl, k8, z8, s8⟩
            have cL8 : w8.cell? ⟨gl, k, none⟩ = some (.pointer (some ⟨b, 0, none⟩)) := (k8.cell (x := ⟨gl, k, none⟩) hgol).trans cL
            have cT8 : w8.cell? ⟨gt, k, none⟩ = some (.slice ta xs.length tc) := (k8.cell (x := ⟨gt, k, none⟩) hgot).trans cT
            have neO := run_eql_ptr_other (P := Tryd.prog) w8 (tp := 29) (a := ⟨w7.heap.size, 0, none⟩) (b := ⟨b, 0, none⟩) Tryd.underlying29 hjS (by rw [hjz]; decide) (by intro h; injection h with h; omega) s8 ((k8.block b hbm.2).trans (HS7.out.st k b xs HXK.out.1 HXK.out.2.1))
            have hz8 : w7.heap.size < w8.heap.size := by omega
            have HS8 := hid (HS7.out.keep k8.drew)
            have HK8 := hid (And.intro k8.drew s8)
            have hgne : gl ≠ gt := fun e => (HS7.out.ol gl rfl).2.2 (e ▸ rfl)
            clear k8 s8 z8
            go_wp2_with fail
            clear neO
            obtain ⟨iP, hiP, hzP, hsP, hbP⟩ := info_parts (show (Tryd.prog.info? 29).map (fun i => (i.zero, i.size, i.bytes)) = some (some (.pointer none), 1, 8) by kernel_rfl)
            obtain ⟨iS, hiS, hzS, hsS, hbS⟩ := info_parts (show (Tryd.prog.info? 22).map (fun i => (i.zero, i.size, i.bytes)) = some (some (.slice none 0 0), 1, 24) by kernel_rfl)
            refine wp_region_held (S := fun _ => True) (by kernel_rfl) ?_
            refine Txt.any_world (fun wx => States w4 wx bs xss xss (.slice (some ⟨gl, 0, none⟩) n cl) (.slice (some ⟨gt, 0, none⟩) n ct) ts ∧ Keep (· < w7.heap.size) w7 wx ∧ StAt wx w7.heap.size (Sha.St.new.take xs) ∧ wx.cell? ⟨gt, k, none⟩ = some (.slice ta xs.length tc) ∧ w7.heap.size < wx.heap.size) ⟨HS8.out, HK8.out.1, HK8.out.2, cT8, hz8⟩ ?_
            rintro wd ⟨hsd, k7d, s1d, cTd, hzd⟩
            have Sd := hid hsd
            have K7d := hid k7d
            have S1d := hid s1d
            have CTd := hid cTd
            clear hsd k7d s1d cTd cT8 cL8 cL cT fT cB cK cO
            refine Txt.any_free 0 rfl (by kernel_rfl) (by kernel_rfl) (by kernel_rfl) (fun _ _ _ _ h => h) rfl trivial (fun K hK => ?_); go_simp; refine hK _ ?_; clear hK K
            refine Txt.any_free 1 rfl (by kernel_rfl) (by kernel_rfl) (by kernel_rfl) (fun _ _ _ _ h => h) rfl trivial (fun K hK => ?_); go_simp; refine hK _ ?_; clear hK K
            refine Txt.any_free 4 rfl (by kernel_rfl) (by kernel_rfl) (by kernel_rfl) (fun _ _ _ _ h => h) rfl trivial (fun K hK => ?_); go_simp; refine hK _ ?_; clear hK K
            refine Txt.any_free 5 rfl (by kernel_rfl) (by kernel_rfl) (by kernel_rfl) (fun _ _ _ _ h => h) rfl trivial (fun K hK => ?_); go_simp; refine hK _ ?_; clear hK K
            refine Txt.any_free 6 rfl (by kernel_rfl) (by kernel_rfl) (by kernel_rfl) (fun _ _ _ _ h => h) rfl trivial (fun K hK => ?_); go_simp; refine hK _ ?_; clear hK K
            refine Txt.any_free 7 rfl (by kernel_rfl) (by kernel_rfl) (by kernel_rfl) (fun _ _ _ _ h => h) rfl trivial (fun K hK => ?_); go_simp; refine hK _ ?_; clear hK K
            refine Txt.any_two (i := 2) (j := 8) (by kernel_rfl) ?_ ?_
            · refine Txt.any_op rfl rfl (fun K hK => ?_)
              go_simp
              refine hK _ _ ⟨trivial, ?_⟩
              clear hK K
              have HA2 := push_alloc wd (ptr w7.heap.size) 29
              refine Txt.any_world (fun wx => Keep (· < wd.heap.size) wd wx ∧ Cells wx (fun b => wd.heap.size ≤ b ∧ b < wx.heap.size) (.slice (some ⟨wd.heap.size, 0, none⟩) 1 1) [(ptr w7.heap.size)]) HA2 ?_
              clear HA2
              rintro wq1 ⟨kwq1, cwq1⟩
              have Kwq1 := hid kwq1
              have Cwq1 := hid cwq1
              have zwq1 := kwq1.size
              clear kwq1 cwq1
              have Swq1 := hid (Sd.out.keep Kwq1.out)
              have K7wq1 := hid ((K7d.out).trans (Kwq1.out.mono (fun j h => Nat.lt_of_lt_of_le h (K7d.out).size)))
              have s1wq1 := hid ((Kwq1.out.block w7.heap.size (by omega)).trans (S1d.out))
              have cTwq1 := hid ((Kwq1.out.cell (x := ⟨gt, k, none⟩) (Sd.out.rt.lt rfl)).trans (CTd.out))
              refine Txt.any_two (i := 3) (j := 8) (by kernel_rfl) ?_ ?_
              · refine Txt.any_app rfl rfl (.tmp 107) (.tmp 109) 44 44 rfl _ (append_at (P := Tryd.prog) 44 29 iP (.pointer none) 8 Tryd.underlying44 hiP hzP hsP hbP rfl wq1 _ (.slice (some ⟨gl, 0, none⟩) n cl) (.slice (some ⟨wd.heap.size, 0, none⟩) 1 1) (bs.map ptr) [ptr w7.heap.size] Swq1.out.rl Cwq1.out (by simp [ptr, Value.oneCell']) (by rw [HN.out.2.1]; simp; omega) (by rw [HN.out.2.1]; simp; omega)) ?_
                rintro lvwq3 wq3 ⟨rwq3, kwq3, owq3⟩
                have hqwq3 := hid (And.intro rwq3 (And.intro kwq3 owq3))
                have rtwq3 := hid (Swq1.out.rt.keep kwq3 (fun j hj => ⟨Swq1.out.rt.lt hj, fun e => (Swq1.out.ol j e).2.2 hj⟩))
                have cTwq3 := hid ((kwq3.cell (x := ⟨gt, k, none⟩) ⟨Swq1.out.rt.lt rfl, by simp [Value.ownBlock]; exact hgne⟩).trans (cTwq1.out))
                clear rwq3 kwq3 owq3
                refine ⟨trivial, ?_⟩
                refine Txt.any_one (i := 8) (by kernel_rfl) ?_
                refine Txt.any_op rfl rfl (fun K hK => ?_)
                have cTx : wq3.cell? ⟨gt, k, none⟩ = some (.slice ta xs.length tc) := cTwq3.out
                go_simp
                refine hK _ _ ⟨trivial, ?_⟩
                clear hK K cTx
                refine Txt.any_one (i := 9) (by kernel_rfl) ?_
                refine Txt.any_op rfl rfl (fun K hK => ?_)
                go_simp
                refine hK _ _ ⟨trivial, ?_⟩
                clear hK K
                have HA6 := push_alloc wq3 (.slice ta xs.length tc) 22
                refine Txt.any_world (fun wx => Keep (· < wq3.heap.size) wq3 wx ∧ Cells wx (fun b => wq3.heap.size ≤ b ∧ b < wx.heap.size) (.slice (some ⟨wq3.heap.size, 0, none⟩) 1 1) [(.slice ta xs.length tc)]) HA6 ?_
                clear HA6
                rintro wq5 ⟨kwq5, cwq5⟩
                have Kwq5 := hid kwq5
                have Cwq5 := hid cwq5
                have zwq5 := kwq5.size
                clear kwq5 cwq5
                have rtwq5 := hid ((rtwq3.out).keep Kwq5.out (fun j hj => (rtwq3.out).lt hj))
                have kBwq5 := hid ((Keep.refl (· < wq3.heap.size) wq3).trans (Kwq5.out.mono (fun j h => Nat.lt_of_lt_of_le h (Keep.refl (· < wq3.heap.size) wq3).size)))
                refine Txt.any_one (i := 10) (by kernel_rfl) ?_
                refine Txt.any_app rfl rfl (.tmp 111) (.tmp 116) 36 36 rfl _ (append_at (P := Tryd.prog) 36 22 iS (.slice none 0 0) 24 Tryd.underlying36 hiS hzS hsS hbS rfl wq5 _ (.slice (some ⟨gt, 0, none⟩) n ct) (.slice (some ⟨wq3.heap.size, 0, none⟩) 1 1) ts [(.slice ta xs.length tc)] rtwq5.out Cwq5.out (by simp [Value.oneCell']) (by rw [HN.out.2.2]; simp; omega) (by rw [HN.out.2.2]; simp; omega)) ?_
                rintro tvwq7 wq7 ⟨rwq7, kwq7, owq7⟩
                have zBwq7 : wq3.heap.size ≤ wq5.heap.size := kBwq5.out.size
                have HPwq7 := hid (HS7.out.push HXK.out.2.1 HXK.out.2.1 HXK.out.2.2.1 K7wq1.out (by omega) (s1wq1.out) (hqwq3.out).2.1 (hqwq3.out).1 (hqwq3.out).2.2 ((kBwq5.out.mono (fun j hj => hj.1)).trans (kwq7.mono (fun j hj => ⟨Nat.lt_of_lt_of_le hj.1 zBwq7, hj.2⟩))) rwq7 (fun j hj => (owq7 j hj).imp id (fun h => Nat.le_trans zBwq7 h)))
                clear rwq7 kwq7 owq7
                refine ⟨trivial, ?_⟩
                refine Txt.any_free 11 rfl (by kernel_rfl) (by kernel_rfl) (by kernel_rfl) (fun _ _ _ _ h => h) rfl trivial (fun K hK => ?_); go_simp; refine hK _ ?_; clear hK K
                refine Txt.any_free 12 rfl (by kernel_rfl) (by kernel_rfl) (by kernel_rfl) (fun _ _ _ _ h => h) rfl trivial (fun K hK => ?_); go_simp; refine hK _ ?_; clear hK K
                refine wpAnyH_done (by kernel_rfl) ?_ _
                go_wp2_with fail
                go_roundg (gk - 1)
                case measure => omega
                case rel =>
                  refine ⟨i + 1, m, by omega, by go_num, rfl, by omega, by omega, hid ⟨_, _, _, HPwq7.out, by simp, by rw [List.length_append, HN.out.1]; simp; omega, fun xs' hx' => ?_⟩⟩
                  rcases List.mem_append.1 hx' with h | h
                  · have := HL.out xs' h; omega
                  · simp only [List.mem_singleton] at h; subst h; omega
              · refine Txt.any_op rfl rfl (fun K hK => ?_)
                have cTx : wq1.cell? ⟨gt, k, none⟩ = some (.slice ta xs.length tc) := cTwq1.out
                go_simp
                refine hK _ _ ⟨trivial, ?_⟩
                clear hK K cTx
                refine Txt.any_two (i := 3) (j := 9) (by kernel_rfl) ?_ ?_
                · refine Txt.any_app rfl rfl (.tmp 107) (.tmp 109) 44 44 rfl _ (append_at (P := Tryd.prog) 44 29 iP (.pointer none) 8 Tryd.underlying44 hiP hzP hsP hbP rfl wq1 _ (.slice (some ⟨gl, 0, none⟩) n cl) (.slice (some ⟨wd.heap.size, 0, none⟩) 1 1) (bs.map ptr) [ptr w7.heap.size] Swq1.out.rl Cwq1.out (by simp [ptr, Value.oneCell']) (by rw [HN.out.2.1]; simp; omega) (by rw [HN.out.2.1]; simp; omega)) ?_
                  rintro lvwq9 wq9 ⟨rwq9, kwq9, owq9⟩
                  have hqwq9 := hid (And.intro rwq9 (And.intro kwq9 owq9))
                  have rtwq9 := hid (Swq1.out.rt.keep kwq9 (fun j hj => ⟨Swq1.out.rt.lt hj, fun e => (Swq1.out.ol j e).2.2 hj⟩))
                  have cTwq9 := hid ((kwq9.cell (x := ⟨gt, k, none⟩) ⟨Swq1.out.rt.lt rfl, by simp [Value.ownBlock]; exact hgne⟩).trans (cTwq1.out))
                  clear rwq9 kwq9 owq9
                  refine ⟨trivial, ?_⟩
                  refine Txt.any_one (i := 9) (by kernel_rfl) ?_
                  refine Txt.any_op rfl rfl (fun K hK => ?_)
                  go_simp
                  refine hK _ _ ⟨trivial, ?_⟩
                  clear hK K
                  have HA11 := push_alloc wq9 (.slice ta xs.length tc) 22
                  refine Txt.any_world (fun wx => Keep (· < wq9.heap.size) wq9 wx ∧ Cells wx (fun b => wq9.heap.size ≤ b ∧ b < wx.heap.size) (.slice (some ⟨wq9.heap.size, 0, none⟩) 1 1) [(.slice ta xs.length tc)]) HA11 ?_
                  clear HA11
                  rintro wq10 ⟨kwq10, cwq10⟩
                  have Kwq10 := hid kwq10
                  have Cwq10 := hid cwq10
                  have zwq10 := kwq10.size
                  clear kwq10 cwq10
                  have rtwq10 := hid ((rtwq9.out).keep Kwq10.out (fun j hj => (rtwq9.out).lt hj))
                  have kBwq10 := hid ((Keep.refl (· < wq9.heap.size) wq9).trans (Kwq10.out.mono (fun j h => Nat.lt_of_lt_of_le h (Keep.refl (· < wq9.heap.size) wq9).size)))
                  refine Txt.any_one (i := 10) (by kernel_rfl) ?_
                  refine Txt.any_app rfl rfl (.tmp 111) (.tmp 116) 36 36 rfl _ (append_at (P := Tryd.prog) 36 22 iS (.slice none 0 0) 24 Tryd.underlying36 hiS hzS hsS hbS rfl wq10 _ (.slice (some ⟨gt, 0, none⟩) n ct) (.slice (some ⟨wq9.heap.size, 0, none⟩) 1 1) ts [(.slice ta xs.length tc)] rtwq10.out Cwq10.out (by simp [Value.oneCell']) (by rw [HN.out.2.2]; simp; omega) (by rw [HN.out.2.2]; simp; omega)) ?_
                  rintro tvwq12 wq12 ⟨rwq12, kwq12, owq12⟩
                  have zBwq12 : wq9.heap.size ≤ wq10.heap.size := kBwq10.out.size
                  have HPwq12 := hid (HS7.out.push HXK.out.2.1 HXK.out.2.1 HXK.out.2.2.1 K7wq1.out (by omega) (s1wq1.out) (hqwq9.out).2.1 (hqwq9.out).1 (hqwq9.out).2.2 ((kBwq10.out.mono (fun j hj => hj.1)).trans (kwq12.mono (fun j hj => ⟨Nat.lt_of_lt_of_le hj.1 zBwq12, hj.2⟩))) rwq12 (fun j hj => (owq12 j hj).imp id (fun h => Nat.le_trans zBwq12 h)))
                  clear rwq12 kwq12 owq12
                  refine ⟨trivial, ?_⟩
                  refine Txt.any_free 11 rfl (by kernel_rfl) (by kernel_rfl) (by kernel_rfl) (fun _ _ _ _ h => h) rfl trivial (fun K hK => ?_); go_simp; refine hK _ ?_; clear hK K
                  refine Txt.any_free 12 rfl (by kernel_rfl) (by kernel_rfl) (by kernel_rfl) (fun _ _ _ _ h => h) rfl trivial (fun K hK => ?_); go_simp; refine hK _ ?_; clear hK K
                  refine wpAnyH_done (by kernel_rfl) ?_ _
                  go_wp2_with fail
                  go_roundg (gk - 1)
                  case measure => omega
                  case rel =>
                    refine ⟨i + 1, m, by omega, by go_num, rfl, by omega, by omega, hid ⟨_, _, _, HPwq12.out, by simp, by rw [List.length_append, HN.out.1]; simp; omega, fun xs' hx' => ?_⟩⟩
                    rcases List.mem_append.1 hx' with h | h
                    · have := HL.out xs' h; omega
                    · simp only [List.mem_singleton] at h; subst h; omega
                · refine Txt.any_op rfl rfl (fun K hK => ?_)
                  go_simp
                  refine hK _ _ ⟨trivial, ?_⟩
                  clear hK K
                  have HA14 := push_alloc wq1 (.slice ta xs.length tc) 22
                  refine Txt.any_world (fun wx => Keep (· < wq1.heap.size) wq1 wx ∧ Cells wx (fun b => wq1.heap.size ≤ b ∧ b < wx.heap.size) (.slice (some ⟨wq1.heap.size, 0, none⟩) 1 1) [(.slice ta xs.length tc)]) HA14 ?_
                  clear HA14
                  rintro wq13 ⟨kwq13, cwq13⟩
                  have Kwq13 := hid kwq13
                  have Cwq13 := hid cwq13
                  have zwq13 := kwq13.size
                  clear kwq13 cwq13
                  have Swq13 := hid (Swq1.out.keep Kwq13.out)
                  have K7wq13 := hid ((K7wq1.out).trans (Kwq13.out.mono (fun j h => Nat.lt_of_lt_of_le h (K7wq1.out).size)))
                  have s1wq13 := hid ((Kwq13.out.block w7.heap.size (by omega)).trans (s1wq1.out))
                  have cTwq13 := hid ((Kwq13.out.cell (x := ⟨gt, k, none⟩) (Swq1.out.rt.lt rfl)).trans (cTwq1.out))
                  have c2wq13 := hid (((Cwq1.out).keep Kwq13.out (fun j hj => hj.2)).mono (q := fun b => wd.heap.size ≤ b ∧ b < wq13.heap.size) (fun j hj => ⟨hj.1, Nat.lt_of_lt_of_le hj.2 Kwq13.out.size⟩))
                  refine Txt.any_one (i := 3) (by kernel_rfl) ?_
                  refine Txt.any_app rfl rfl (.tmp 107) (.tmp 109) 44 44 rfl _ (append_at (P := Tryd.prog) 44 29 iP (.pointer none) 8 Tryd.underlying44 hiP hzP hsP hbP rfl wq13 _ (.slice (some ⟨gl, 0, none⟩) n cl) (.slice (some ⟨wd.heap.size, 0, none⟩) 1 1) (bs.map ptr) [ptr w7.heap.size] Swq13.out.rl c2wq13.out (by simp [ptr, Value.oneCell']) (by rw [HN.out.2.1]; simp; omega) (by rw [HN.out.2.1]; simp; omega)) ?_
                  rintro lvwq15 wq15 ⟨rwq15, kwq15, owq15⟩
                  have hqwq15 := hid (And.intro rwq15 (And.intro kwq15 owq15))
                  have rtwq15 := hid (Swq13.out.rt.keep kwq15 (fun j hj => ⟨Swq13.out.rt.lt hj, fun e => (Swq13.out.ol j e).2.2 hj⟩))
                  have cTwq15 := hid ((kwq15.cell (x := ⟨gt, k, none⟩) ⟨Swq13.out.rt.lt rfl, by simp [Value.ownBlock]; exact hgne⟩).trans (cTwq13.out))
                  have c9wq15 := hid ((Cwq13.out).keep kwq15 (fun j hj => And.intro hj.2 (fun e => by have := HS7.out.rl.lt e; have := hj.1; omega)))
                  clear rwq15 kwq15 owq15
                  refine ⟨trivial, ?_⟩
                  refine Txt.any_one (i := 10) (by kernel_rfl) ?_
                  refine Txt.any_app rfl rfl (.tmp 111) (.tmp 116) 36 36 rfl _ (append_at (P := Tryd.prog) 36 22 iS (.slice none 0 0) 24 Tryd.underlying36 hiS hzS hsS hbS rfl wq15 _ (.slice (some ⟨gt, 0, none⟩) n ct) (.slice (some ⟨wq1.heap.size, 0, none⟩) 1 1) ts [(.slice ta xs.length tc)] rtwq15.out c9wq15.out (by simp [Value.oneCell']) (by rw [HN.out.2.2]; simp; omega) (by rw [HN.out.2.2]; simp; omega)) ?_
                  rintro tvwq16 wq16 ⟨rwq16, kwq16, owq16⟩
                  have zBwq16 : wq15.heap.size ≤ wq15.heap.size := (Keep.refl (· < wq15.heap.size) wq15).size
                  have HPwq16 := hid (HS7.out.push HXK.out.2.1 HXK.out.2.1 HXK.out.2.2.1 K7wq13.out (by omega) (s1wq13.out) (hqwq15.out).2.1 (hqwq15.out).1 (hqwq15.out).2.2 (((Keep.refl (· < wq15.heap.size) wq15).mono (fun j hj => hj.1)).trans (kwq16.mono (fun j hj => ⟨Nat.lt_of_lt_of_le hj.1 zBwq16, hj.2⟩))) rwq16 (fun j hj => (owq16 j hj).imp id (fun h => Nat.le_trans zBwq16 h)))
                  clear rwq16 kwq16 owq16
                  refine ⟨trivial, ?_⟩
                  refine Txt.any_free 11 rfl (by kernel_rfl) (by kernel_rfl) (by kernel_rfl) (fun _ _ _ _ h => h) rfl trivial (fun K hK => ?_); go_simp; refine hK _ ?_; clear hK K
                  refine Txt.any_free 12 rfl (by kernel_rfl) (by kernel_rfl) (by kernel_rfl) (fun _ _ _ _ h => h) rfl trivial (fun K hK => ?_); go_simp; refine hK _ ?_; clear hK K
                  refine wpAnyH_done (by kernel_rfl) ?_ _
                  go_wp2_with fail
                  go_roundg (gk - 1)
                  case measure => omega
                  case rel =>
                    refine ⟨i + 1, m, by omega, by go_num, rfl, by omega, by omega, hid ⟨_, _, _, HPwq16.out, by simp, by rw [List.length_append, HN.out.1]; simp; omega, fun xs' hx' => ?_⟩⟩
                    rcases List.mem_append.1 hx' with h | h
                    · have := HL.out xs' h; omega
                    · simp only [List.mem_singleton] at h; subst h; omega
            · refine Txt.any_op rfl rfl (fun K hK => ?_)
              have cTx : wd.cell? ⟨gt, k, none⟩ = some (.slice ta xs.length tc) := CTd.out
              go_simp
              refine hK _ _ ⟨trivial, ?_⟩
              clear hK K cTx
              refine Txt.any_two (i := 2) (j := 9) (by kernel_rfl) ?_ ?_
              · refine Txt.any_op rfl rfl (fun K hK => ?_)
                go_simp
                refine hK _ _ ⟨trivial, ?_⟩
                clear hK K
                have HA19 := push_alloc wd (ptr w7.heap.size) 29
                refine Txt.any_world (fun wx => Keep (· < wd.heap.size) wd wx ∧ Cells wx (fun b => wd.heap.size ≤ b ∧ b < wx.heap.size) (.slice (some ⟨wd.heap.size, 0, none⟩) 1 1) [(ptr w7.heap.size)]) HA19 ?_
                clear HA19
                rintro wq18 ⟨kwq18, cwq18⟩
                have Kwq18 := hid kwq18
                have Cwq18 := hid cwq18
                have zwq18 := kwq18.size
                clear kwq18 cwq18
                have Swq18 := hid (Sd.out.keep Kwq18.out)
                have K7wq18 := hid ((K7d.out).trans (Kwq18.out.mono (fun j h => Nat.lt_of_lt_of_le h (K7d.out).size)))
                have s1wq18 := hid ((Kwq18.out.block w7.heap.size (by omega)).trans (S1d.out))
                have cTwq18 := hid ((Kwq18.out.cell (x := ⟨gt, k, none⟩) (Sd.out.rt.lt rfl)).trans (CTd.out))
                refine Txt.any_two (i := 3) (j := 9) (by kernel_rfl) ?_ ?_
                · refine Txt.any_app rfl rfl (.tmp 107) (.tmp 109) 44 44 rfl _ (append_at (P := Tryd.prog) 44 29 iP (.pointer none) 8 Tryd.underlying44 hiP hzP hsP hbP rfl wq18 _ (.slice (some ⟨gl, 0, none⟩) n cl) (.slice (some ⟨wd.heap.size, 0, none⟩) 1 1) (bs.map ptr) [ptr w7.heap.size] Swq18.out.rl Cwq18.out (by simp [ptr, Value.oneCell']) (by rw [HN.out.2.1]; simp; omega) (by rw [HN.out.2.1]; simp; omega)) ?_
                  rintro lvwq20 wq20 ⟨rwq20, kwq20, owq20⟩
                  have hqwq20 := hid (And.intro rwq20 (And.intro kwq20 owq20))
                  have rtwq20 := hid (Swq18.out.rt.keep kwq20 (fun j hj => ⟨Swq18.out.rt.lt hj, fun e => (Swq18.out.ol j e).2.2 hj⟩))
                  have cTwq20 := hid ((kwq20.cell (x := ⟨gt, k, none⟩) ⟨Swq18.out.rt.lt rfl, by simp [Value.ownBlock]; exact hgne⟩).trans (cTwq18.out))
                  clear rwq20 kwq20 owq20
                  refine ⟨trivial, ?_⟩
                  refine Txt.any_one (i := 9) (by kernel_rfl) ?_
                  refine Txt.any_op rfl rfl (fun K hK => ?_)
                  go_simp
                  refine hK _ _ ⟨trivial, ?_⟩
                  clear hK K
                  have HA22 := push_alloc wq20 (.slice ta xs.length tc) 22
                  refine Txt.any_world (fun wx => Keep (· < wq20.heap.size) wq20 wx ∧ Cells wx (fun b => wq20.heap.size ≤ b ∧ b < wx.heap.size) (.slice (some ⟨wq20.heap.size, 0, none⟩) 1 1) [(.slice ta xs.length tc)]) HA22 ?_
                  clear HA22
                  rintro wq21 ⟨kwq21, cwq21⟩
                  have Kwq21 := hid kwq21
                  have Cwq21 := hid cwq21
                  have zwq21 := kwq21.size
                  clear kwq21 cwq21
                  have rtwq21 := hid ((rtwq20.out).keep Kwq21.out (fun j hj => (rtwq20.out).lt hj))
                  have kBwq21 := hid ((Keep.refl (· < wq20.heap.size) wq20).trans (Kwq21.out.mono (fun j h => Nat.lt_of_lt_of_le h (Keep.refl (· < wq20.heap.size) wq20).size)))
                  refine Txt.any_one (i := 10) (by kernel_rfl) ?_
                  refine Txt.any_app rfl rfl (.tmp 111) (.tmp 116) 36 36 rfl _ (append_at (P := Tryd.prog) 36 22 iS (.slice none 0 0) 24 Tryd.underlying36 hiS hzS hsS hbS rfl wq21 _ (.slice (some ⟨gt, 0, none⟩) n ct) (.slice (some ⟨wq20.heap.size, 0, none⟩) 1 1) ts [(.slice ta xs.length tc)] rtwq21.out Cwq21.out (by simp [Value.oneCell']) (by rw [HN.out.2.2]; simp; omega) (by rw [HN.out.2.2]; simp; omega)) ?_
                  rintro tvwq23 wq23 ⟨rwq23, kwq23, owq23⟩
                  have zBwq23 : wq20.heap.size ≤ wq21.heap.size := kBwq21.out.size
                  have HPwq23 := hid (HS7.out.push HXK.out.2.1 HXK.out.2.1 HXK.out.2.2.1 K7wq18.out (by omega) (s1wq18.out) (hqwq20.out).2.1 (hqwq20.out).1 (hqwq20.out).2.2 ((kBwq21.out.mono (fun j hj => hj.1)).trans (kwq23.mono (fun j hj => ⟨Nat.lt_of_lt_of_le hj.1 zBwq23, hj.2⟩))) rwq23 (fun j hj => (owq23 j hj).imp id (fun h => Nat.le_trans zBwq23 h)))
                  clear rwq23 kwq23 owq23
                  refine ⟨trivial, ?_⟩
                  refine Txt.any_free 11 rfl (by kernel_rfl) (by kernel_rfl) (by kernel_rfl) (fun _ _ _ _ h => h) rfl trivial (fun K hK => ?_); go_simp; refine hK _ ?_; clear hK K
                  refine Txt.any_free 12 rfl (by kernel_rfl) (by kernel_rfl) (by kernel_rfl) (fun _ _ _ _ h => h) rfl trivial (fun K hK => ?_); go_simp; refine hK _ ?_; clear hK K
                  refine wpAnyH_done (by kernel_rfl) ?_ _
                  go_wp2_with fail
                  go_roundg (gk - 1)
                  case measure => omega
                  case rel =>
                    refine ⟨i + 1, m, by omega, by go_num, rfl, by omega, by omega, hid ⟨_, _, _, HPwq23.out, by simp, by rw [List.length_append, HN.out.1]; simp; omega, fun xs' hx' => ?_⟩⟩
                    rcases List.mem_append.1 hx' with h | h
                    · have := HL.out xs' h; omega
                    · simp only [List.mem_singleton] at h; subst h; omega
                · refine Txt.any_op rfl rfl (fun K hK => ?_)
                  go_simp
                  refine hK _ _ ⟨trivial, ?_⟩
                  clear hK K
                  have HA25 := push_alloc wq18 (.slice ta xs.length tc) 22
                  refine Txt.any_world (fun wx => Keep (· < wq18.heap.size) wq18 wx ∧ Cells wx (fun b => wq18.heap.size ≤ b ∧ b < wx.heap.size) (.slice (some ⟨wq18.heap.size, 0, none⟩) 1 1) [(.slice ta xs.length tc)]) HA25 ?_
                  clear HA25
                  rintro wq24 ⟨kwq24, cwq24⟩
                  have Kwq24 := hid kwq24
                  have Cwq24 := hid cwq24
                  have zwq24 := kwq24.size
                  clear kwq24 cwq24
                  have Swq24 := hid (Swq18.out.keep Kwq24.out)
                  have K7wq24 := hid ((K7wq18.out).trans (Kwq24.out.mono (fun j h => Nat.lt_of_lt_of_le h (K7wq18.out).size)))
                  have s1wq24 := hid ((Kwq24.out.block w7.heap.size (by omega)).trans (s1wq18.out))
                  have cTwq24 := hid ((Kwq24.out.cell (x := ⟨gt, k, none⟩) (Swq18.out.rt.lt rfl)).trans (cTwq18.out))
                  have c2wq24 := hid (((Cwq18.out).keep Kwq24.out (fun j hj => hj.2)).mono (q := fun b => wd.heap.size ≤ b ∧ b < wq24.heap.size) (fun j hj => ⟨hj.1, Nat.lt_of_lt_of_le hj.2 Kwq24.out.size⟩))
                  refine Txt.any_one (i := 3) (by kernel_rfl) ?_
                  refine Txt.any_app rfl rfl (.tmp 107) (.tmp 109) 44 44 rfl _ (append_at (P := Tryd.prog) 44 29 iP (.pointer none) 8 Tryd.underlying44 hiP hzP hsP hbP rfl wq24 _ (.slice (some ⟨gl, 0, none⟩) n cl) (.slice (some ⟨wd.heap.size, 0, none⟩) 1 1) (bs.map ptr) [ptr w7.heap.size] Swq24.out.rl c2wq24.out (by simp [ptr, Value.oneCell']) (by rw [HN.out.2.1]; simp; omega) (by rw [HN.out.2.1]; simp; omega)) ?_
                  rintro lvwq26 wq26 ⟨rwq26, kwq26, owq26⟩
                  have hqwq26 := hid (And.intro rwq26 (And.intro kwq26 owq26))
                  have rtwq26 := hid (Swq24.out.rt.keep kwq26 (fun j hj => ⟨Swq24.out.rt.lt hj, fun e => (Swq24.out.ol j e).2.2 hj⟩))
                  have cTwq26 := hid ((kwq26.cell (x := ⟨gt, k, none⟩) ⟨Swq24.out.rt.lt rfl, by simp [Value.ownBlock]; exact hgne⟩).trans (cTwq24.out))
                  have c9wq26 := hid ((Cwq24.out).keep kwq26 (fun j hj => And.intro hj.2 (fun e => by have := HS7.out.rl.lt e; have := hj.1; omega)))
                  clear rwq26 kwq26 owq26
                  refine ⟨trivial, ?_⟩
                  refine Txt.any_one (i := 10) (by kernel_rfl) ?_
                  refine Txt.any_app rfl rfl (.tmp 111) (.tmp 116) 36 36 rfl _ (append_at (P := Tryd.prog) 36 22 iS (.slice none 0 0) 24 Tryd.underlying36 hiS hzS hsS hbS rfl wq26 _ (.slice (some ⟨gt, 0, none⟩) n ct) (.slice (some ⟨wq18.heap.size, 0, none⟩) 1 1) ts [(.slice ta xs.length tc)] rtwq26.out c9wq26.out (by simp [Value.oneCell']) (by rw [HN.out.2.2]; simp; omega) (by rw [HN.out.2.2]; simp; omega)) ?_
                  rintro tvwq27 wq27 ⟨rwq27, kwq27, owq27⟩
                  have zBwq27 : wq26.heap.size ≤ wq26.heap.size := (Keep.refl (· < wq26.heap.size) wq26).size
                  have HPwq27 := hid (HS7.out.push HXK.out.2.1 HXK.out.2.1 HXK.out.2.2.1 K7wq24.out (by omega) (s1wq24.out) (hqwq26.out).2.1 (hqwq26.out).1 (hqwq26.out).2.2 (((Keep.refl (· < wq26.heap.size) wq26).mono (fun j hj => hj.1)).trans (kwq27.mono (fun j hj => ⟨Nat.lt_of_lt_of_le hj.1 zBwq27, hj.2⟩))) rwq27 (fun j hj => (owq27 j hj).imp id (fun h => Nat.le_trans zBwq27 h)))
                  clear rwq27 kwq27 owq27
                  refine ⟨trivial, ?_⟩
                  refine Txt.any_free 11 rfl (by kernel_rfl) (by kernel_rfl) (by kernel_rfl) (fun _ _ _ _ h => h) rfl trivial (fun K hK => ?_); go_simp; refine hK _ ?_; clear hK K
                  refine Txt.any_free 12 rfl (by kernel_rfl) (by kernel_rfl) (by kernel_rfl) (fun _ _ _ _ h => h) rfl trivial (fun K hK => ?_); go_simp; refine hK _ ?_; clear hK K
                  refine wpAnyH_done (by kernel_rfl) ?_ _
                  go_wp2_with fail
                  go_roundg (gk - 1)
                  case measure => omega
                  case rel =>
                    refine ⟨i + 1, m, by omega, by go_num, rfl, by omega, by omega, hid ⟨_, _, _, HPwq27.out, by simp, by rw [List.length_append, HN.out.1]; simp; omega, fun xs' hx' => ?_⟩⟩
                    rcases List.mem_append.1 hx' with h | h
                    · have := HL.out xs' h; omega
                    · simp only [List.mem_singleton] at h; subst h; omega
              · refine Txt.any_op rfl rfl (fun K hK => ?_)
                go_simp
                refine hK _ _ ⟨trivial, ?_⟩
                clear hK K
                have HA29 := push_alloc wd (.slice ta xs.length tc) 22
                refine Txt.any_world (fun wx => Keep (· < wd.heap.size) wd wx ∧ Cells wx (fun b => wd.heap.size ≤ b ∧ b < wx.heap.size) (.slice (some ⟨wd.heap.size, 0, none⟩) 1 1) [(.slice ta xs.length tc)]) HA29 ?_
                clear HA29
                rintro wq28 ⟨kwq28, cwq28⟩
                have Kwq28 := hid kwq28
                have Cwq28 := hid cwq28
                have zwq28 := kwq28.size
                clear kwq28 cwq28
                have Swq28 := hid (Sd.out.keep Kwq28.out)
                have K7wq28 := hid ((K7d.out).trans (Kwq28.out.mono (fun j h => Nat.lt_of_lt_of_le h (K7d.out).size)))
                have s1wq28 := hid ((Kwq28.out.block w7.heap.size (by omega)).trans (S1d.out))
                have cTwq28 := hid ((Kwq28.out.cell (x := ⟨gt, k, none⟩) (Sd.out.rt.lt rfl)).trans (CTd.out))
                refine Txt.any_one (i := 2) (by kernel_rfl) ?_
                refine Txt.any_op rfl rfl (fun K hK => ?_)
                go_simp
                refine hK _ _ ⟨trivial, ?_⟩
                clear hK K
                have HA31 := push_alloc wq28 (ptr w7.heap.size) 29
                refine Txt.any_world (fun wx => Keep (· < wq28.heap.size) wq28 wx ∧ Cells wx (fun b => wq28.heap.size ≤ b ∧ b < wx.heap.size) (.slice (some ⟨wq28.heap.size, 0, none⟩) 1 1) [(ptr w7.heap.size)]) HA31 ?_
                clear HA31
                rintro wq30 ⟨kwq30, cwq30⟩
                have Kwq30 := hid kwq30
                have Cwq30 := hid cwq30
                have zwq30 := kwq30.size
                clear kwq30 cwq30
                have Swq30 := hid (Swq28.out.keep Kwq30.out)
                have K7wq30 := hid ((K7wq28.out).trans (Kwq30.out.mono (fun j h => Nat.lt_of_lt_of_le h (K7wq28.out).size)))
                have s1wq30 := hid ((Kwq30.out.block w7.heap.size (by omega)).trans (s1wq28.out))
                have cTwq30 := hid ((Kwq30.out.cell (x := ⟨gt, k, none⟩) (Swq28.out.rt.lt rfl)).trans (cTwq28.out))
                have c9wq30 := hid (((Cwq28.out).keep Kwq30.out (fun j hj => hj.2)).mono (q := fun b => wd.heap.size ≤ b ∧ b < wq30.heap.size) (fun j hj => ⟨hj.1, Nat.lt_of_lt_of_le hj.2 Kwq30.out.size⟩))
                refine Txt.any_one (i := 3) (by kernel_rfl) ?_
                refine Txt.any_app rfl rfl (.tmp 107) (.tmp 109) 44 44 rfl _ (append_at (P := Tryd.prog) 44 29 iP (.pointer none) 8 Tryd.underlying44 hiP hzP hsP hbP rfl wq30 _ (.slice (some ⟨gl, 0, none⟩) n cl) (.slice (some ⟨wq28.heap.size, 0, none⟩) 1 1) (bs.map ptr) [ptr w7.heap.size] Swq30.out.rl Cwq30.out (by simp [ptr, Value.oneCell']) (by rw [HN.out.2.1]; simp; omega) (by rw [HN.out.2.1]; simp; omega)) ?_
                rintro lvwq32 wq32 ⟨rwq32, kwq32, owq32⟩
                have hqwq32 := hid (And.intro rwq32 (And.intro kwq32 owq32))
                have rtwq32 := hid (Swq30.out.rt.keep kwq32 (fun j hj => ⟨Swq30.out.rt.lt hj, fun e => (Swq30.out.ol j e).2.2 hj⟩))
                have cTwq32 := hid ((kwq32.cell (x := ⟨gt, k, none⟩) ⟨Swq30.out.rt.lt rfl, by simp [Value.ownBlock]; exact hgne⟩).trans (cTwq30.out))
                have c9wq32 := hid ((c9wq30.out).keep kwq32 (fun j hj => And.intro hj.2 (fun e => by have := HS7.out.rl.lt e; have := hj.1; omega)))
                clear rwq32 kwq32 owq32
                refine ⟨trivial, ?_⟩
                refine Txt.any_one (i := 10) (by kernel_rfl) ?_
                refine Txt.any_app rfl rfl (.tmp 111) (.tmp 116) 36 36 rfl _ (append_at (P := Tryd.prog) 36 22 iS (.slice none 0 0) 24 Tryd.underlying36 hiS hzS hsS hbS rfl wq32 _ (.slice (some ⟨gt, 0, none⟩) n ct) (.slice (some ⟨wd.heap.size, 0, none⟩) 1 1) ts [(.slice ta xs.length tc)] rtwq32.out c9wq32.out (by simp [Value.oneCell']) (by rw [HN.out.2.2]; simp; omega) (by rw [HN.out.2.2]; simp; omega)) ?_
                rintro tvwq33 wq33 ⟨rwq33, kwq33, owq33⟩
                have zBwq33 : wq32.heap.size ≤ wq32.heap.size := (Keep.refl (· < wq32.heap.size) wq32).size
                have HPwq33 := hid (HS7.out.push HXK.out.2.1 HXK.out.2.1 HXK.out.2.2.1 K7wq30.out (by omega) (s1wq30.out) (hqwq32.out).2.1 (hqwq32.out).1 (hqwq32.out).2.2 (((Keep.refl (· < wq32.heap.size) wq32).mono (fun j hj => hj.1)).trans (kwq33.mono (fun j hj => ⟨Nat.lt_of_lt_of_le hj.1 zBwq33, hj.2⟩))) rwq33 (fun j hj => (owq33 j hj).imp id (fun h => Nat.le_trans zBwq33 h)))
                clear rwq33 kwq33 owq33
                refine ⟨trivial, ?_⟩
                refine Txt.any_free 11 rfl (by kernel_rfl) (by kernel_rfl) (by kernel_rfl) (fun _ _ _ _ h => h) rfl trivial (fun K hK => ?_); go_simp; refine hK _ ?_; clear hK K
                refine Txt.any_free 12 rfl (by kernel_rfl) (by kernel_rfl) (by kernel_rfl) (fun _ _ _ _ h => h) rfl trivial (fun K hK => ?_); go_simp; refine hK _ ?_; clear hK K
                refine wpAnyH_done (by kernel_rfl) ?_ _
                go_wp2_with fail
                go_roundg (gk - 1)
                case measure => omega
                case rel =>
                  refine ⟨i + 1, m, by omega, by go_num, rfl, by omega, by omega, hid ⟨_, _, _, HPwq33.out, by simp, by rw [List.length_append, HN.out.1]; simp; omega, fun xs' hx' => ?_⟩⟩
                  rcases List.mem_append.1 hx' with h | h
                  · have := HL.out xs' h; omega
                  · simp only [List.mem_singleton] at h; subst h; omega
          have kk2 : (kv == 2) = false := by simpa using z2
          by_cases z3 : kv = 3
          · subst z3
            have gS := take_good (xs := xs) new_good HXK.out.2.2.2
            have HG := hid gS
            clear gS
            go_wp2_with fail
            refine (sum_walk b (Sha.St.new.take xs) w7 HG.out (by rw [Sha.take_n]; have : Sha.St.new.n = 0 := rfl; omega) (HT.out.keep HK7.out HT.out.lt) (HS7.out.st k b xs HXK.out.1 HXK.out.2.1)).mono ?_
            rintro e w8 ⟨rfl, k8⟩
            obtain ⟨F, hF⟩ : ∃ F, (Sha.St.new.take xs).sum = F := ⟨_, rfl⟩
            have hFl : F.length = 32 := by rw [← hF]; exact sum_length HG.out
            have hFb : ∀ x ∈ F, x < 256 := by rw [← hF]; exact of_lt (xs := xs)
            have hi32 := info32 F hFl
            have hold : (ints .u8 (List.replicate 32 0)).toArray.size = (ints .u8 F).toArray.size := by simp [ints_length, hFl]
            rw [hF]
            have HF := hid (And.intro (show Sha.of xs = F from hF) hFb)
            have HK8 := hid k8
            have hz8 := k8.size
            clear hF hFb k8
            go_upto_region 25 with (refine wpList_store_row rfl 24 (.tmp 12) (.tmp 124) rfl w8.heap.size (ints .u8 F).toArray rfl rfl 24 _ (heap_alloc_new w8 _) hi32 hold (ints_all _ _) ?_)
            refine wp_world (fun w9 => Keep (· < w8.heap.size) w8 w9 ∧ w9.heap[w8.heap.size]? = some (.cells (ints .u8 F).toArray 24 (0, 0))) ⟨((Keep.refl _ _).alloc _ (fun _ h => h)).setRow _ (by simp), heap_setRow (heap_alloc_new w8 _) _⟩ ?_
            rintro w9 ⟨k9, h9⟩
            obtain ⟨d, hd⟩ : ∃ d, w8.heap.size = d := ⟨_, rfl⟩
            rw [hd] at k9 h9 hz8 ⊢
            have hd9 : d < w9.heap.size := (Array.getElem?_eq_some_iff.1 h9).1
            have hcF : Cells w9 (fun k => k < w9.heap.size) (.slice (some ⟨d, 0, none⟩) 32 32) (ints .u8 F) := by
              have := Cells.of_block (w := w9) (p := fun k => k < w9.heap.size) (cur := ints .u8 F) (off := 0) (n := 32) (cap := 32) h9 hd9 (by rw [ints_length, hFl]; decide) (Nat.le_refl _) (by decide)
              rwa [List.drop_zero, List.take_of_length_le (by rw [ints_length, hFl]; exact Nat.le_refl _)] at this
            have k79 : Keep (· < w7.heap.size) w7 w9 := HK8.out.trans (k9.mono (fun k h => by omega))
            have HS9 := hid (HS7.out.keep k79)
            have cT9 : w9.cell? ⟨gt, k, none⟩ = some (.slice ta xs.length tc) := (k79.cell (x := ⟨gt, k, none⟩) hgot).trans cT
            have hgt9 : gt < w9.heap.size := by omega
            have HCF := hid hcF
            have HXC9 := hid (HXC.out.keep k79 (fun _ h => h.1))
            clear k9 h9 hcF hold hi32 hd HK8 k79 cT fT cL cB
            have cF : Hid (∀ wx : World, Keep (· < w9.heap.size) w9 wx → (convert 22 9 (.slice (some ⟨d, 0, none⟩) 32 32)).run Tryd.prog wx = .ok (.string (bstr F)) wx) := fun wx kx => conv_bytes wx (HCF.out.keep kx (fun _ h => h))
            refine Txt.wp_region_text [true, true, true, true, true, true, true, false, false, true] (fun wx => Keep (· < w9.heap.size) w9 wx) (by kernel_rfl) (by kernel_rfl) ((Keep.refl _ _).drew) ?_
            iterate 1 (refine Txt.text_free rfl (fun K hK => ?_); go_simp; refine hK _ ?_; clear hK K)
            refine Txt.text_held (.string (bstr F)) rfl (fun w0 h0 => by have := cF.out w0 h0; go_simp) (fun K hK => hK _ ?_)
            iterate 4 (refine Txt.text_free rfl (fun K hK => ?_); go_simp; refine hK _ ?_; clear hK K)
            refine Txt.text_held (.slice ta xs.length tc) rfl (fun w0 h0 => by have := (h0.cell (x := ⟨gt, k, none⟩) hgt9).trans cT9; go_simp) (fun K hK => hK _ ?_)
            refine Txt.text_chain rfl (fun K hK => ?_)
            go_simp
            refine (refof_walk hb _ xs w9.drew _ (by omega) HXK.out.2.2.2 (PairAt.keep H4.out.2 HS9.out.kp.drew (fun j _ h => h)) (HXC9.out.keep ((Keep.refl (fun _ => True) _).drew) (fun _ _ => trivial))).mono ?_
            rintro e w10 ⟨vr, rfl, k10, h10⟩
            rw [HF.out.1] at h10
            have K10 := hid (show Keep (· < w9.heap.size) w9 w10 from (Keep.refl _ _).drew.trans k10)
            refine hK _ _ ⟨K10.out, ?_⟩
            clear hK K k10
            obtain ⟨ar, nr, cr, rfl, er, _, _, _⟩ := id h10
            rw [ints_length, hFl] at er
            subst er
            refine Txt.text_chain rfl (fun K hK => ?_)
            have cR := conv_bytes w10 h10
            go_simp
            refine hK _ _ ⟨K10.out, ?_⟩
            clear hK K cR
            have eF : ((bstr F).toList == (bstr F).toList) = true := by simp
            iterate 1 (refine Txt.text_free rfl (fun K hK => ?_); go_simp; refine hK _ ?_; clear hK K)
            refine Txt.text_done ?_
            have HS10 := hid (HS9.out.keep K10.out)
            go_wp2_with fail
            go_roundg (gk - 1)
            case measure => omega
            case rel => exact ⟨i + 1, m, by omega, by go_num, rfl, by omega, by omega, hid ⟨bs, _, _, HS10.out, by rw [HN.out.1]; exact hn1, by rw [HN.out.1]; omega, fun xs' hx' => by have := HL.out xs' hx'; omega⟩⟩
          have kk3 : (kv == 3) = false := by simpa using z3
          clear HXC cT fT cL cB
          go_wp2_with fail
          go_roundg (gk - 1)
          case measure => omega
          case rel => exact ⟨i + 1, m, by omega, by go_num, rfl, by omega, by omega, hid ⟨bs, _, _, HS7.out, by rw [HN.out.1]; exact hn1, by rw [HN.out.1]; omega, fun xs' hx' => by have := HL.out xs' hx'; omega⟩⟩
        · obtain ⟨ew, t2, t3⟩ := states_wrap z ys.length hz (by omega) hov
          obtain ⟨y, hy⟩ : ∃ y, (z : Int) + (ys.length : Int) - 18446744073709551616 = y := ⟨_, rfl⟩
          rw [hy] at ew t2 t3
          clear hy hov
          go_wp2_with fail
          go_meet
          case rel => exact STOP.out _ rfl
      · obtain rfl : i = L := by omega
        go_wp2_with fail
        go_meet
        case rel =>
          obtain ⟨bs, xss, ts, hS, hn1, hn2, hlz⟩ := HH.out
          exact hid ⟨bs, xss, ts, hS, hn1, by omega, fun xs hx => by have := hlz xs hx; omega⟩
  case rest =>
    clear H6
    obtain ⟨bs, xss, ts, hS, hn1, hn62, hl9⟩ := hcut.out
    clear hcut
    obtain ⟨gl, cl, rfl, hcl1, hcl2, hgl, hcl3, _⟩ := hS.rl.blk (by rw [List.length_map]; omega)
    obtain ⟨gt, ct, rfl, hct1, hct2, hgt', hct3, hft⟩ := hS.rt.blk (by rw [hS.l3]; omega)
    have HCR := hid (And.intro hcl3 hct3)
    have HL := hid hl9
    obtain ⟨n, hn⟩ : ∃ n, bs.length = n := ⟨_, rfl⟩
    have el : (bs.map ptr).length = n := by rw [List.length_map]; exact hn
    have et : ts.length = n := by rw [hS.l3]; exact hn
    rw [hn] at hn1 hn62
    rw [el] at hcl1 ⊢
    rw [et] at hct1 ⊢
    rw [el, et] at hS
    have HN := hid (And.intro hn (And.intro el et))
    have HS := hid hS
    have HKc := hid (H4.out.1.trans (hS.kp.mono (fun k h => by have := H4.out.1.size; omega)))
    have hzc := HKc.out.size
    clear hcl3 hct3 hft hn el et hS hl9
    go_wp2_with fail
    go_loopg [138] n (fun q s138 wr => ∃ k : Nat, k + q = n ∧ s138 = .int .i64 (k : Int) ∧ Keep (· < wc.heap.size) wc wr)
    case atStart => exact ⟨0, by omega, rfl, Keep.refl _ _⟩
    case round =>
      obtain ⟨k, hkq, rfl, hk⟩ := hrel
      have HK := hid hk
      have hzr := hk.size
      clear hk
      by_cases hkn : k < n
      · have hkn' : (k : Int) < (n : Int) := by omega
        obtain ⟨b, hbk⟩ : ∃ b, bs[k]? = some b := ⟨_, List.getElem?_eq_getElem (by rw [HN.out.1]; exact hkn)⟩
        obtain ⟨xs, hxk⟩ : ∃ xs, xss[k]? = some xs := ⟨_, List.getElem?_eq_getElem (by rw [HS.out.l1, HN.out.1]; exact hkn)⟩
        obtain ⟨tv, htk⟩ : ∃ v, ts[k]? = some v := ⟨_, List.getElem?_eq_getElem (by rw [HN.out.2.2]; exact hkn)⟩
        have cL : wr.cell? ⟨gl, k, none⟩ = some (.pointer (some ⟨b, 0, none⟩)) := by
          rw [HK.out.cell (x := ⟨gl, k, none⟩) hgl, HCR.out.1 k (by rw [HN.out.2.1]; exact hkn), List.getElem?_map, hbk]; rfl
        have cT : wr.cell? ⟨gt, k, none⟩ = some tv := by rw [HK.out.cell (x := ⟨gt, k, none⟩) hgt', HCR.out.2 k (by rw [HN.out.2.2]; exact hkn), htk]
        have HSr := hid (HS.out.keep HK.out)
        have hxc := HSr.out.tk k tv xs htk hxk
        have hxl : xs.length ≤ 9000 := HL.out xs (List.mem_of_getElem? hxk)
        have hxby : ∀ x ∈ xs, x < 256 := HS.out.byt xs (List.mem_of_getElem? hxk)
        obtain ⟨ta, tn, tc, rfl, etn, _, _, _⟩ := id hxc
        rw [ints_length] at etn
        subst etn
        have gS := take_good (xs := xs) new_good hxby
        have en : (Sha.St.new.take xs).n = xs.length := by rw [Sha.take_n]; have : Sha.St.new.n = 0 := rfl; omega
        have HG := hid (And.intro gS en)
        have HXK := hid (And.intro hbk (And.intro hxk hxby))
        have HXC := hid hxc
        have HKr := hid (HKc.out.trans (HK.out.mono (fun j h => by omega)))
        clear hbk hxk htk hxby hxc gS en
        go_wp2_with fail
        refine (sum_walk b (Sha.St.new.take xs) wr HG.out.1 (by rw [HG.out.2]; omega) (HT.out.keep HKr.out HT.out.lt) (HSr.out.st k b xs HXK.out.1 HXK.out.2.1)).mono ?_
        rintro e w8 ⟨rfl, k8⟩
        obtain ⟨F, hF⟩ : ∃ F, (Sha.St.new.take xs).sum = F := ⟨_, rfl⟩
        have hFl : F.length = 32 := by rw [← hF]; exact sum_length HG.out.1
        have hi32 := info32 F hFl
        have hold : (ints .u8 (List.replicate 32 0)).toArray.size = (ints .u8 F).toArray.size := by simp [ints_length, hFl]
        rw [hF]
        have HF := hid (show Sha.of xs = F from hF)
        have HK8 := hid k8
        have hz8 := k8.size
        clear hF k8
        go_upto_region 32 with (refine wpList_store_row rfl 24 (.tmp 15) (.tmp 144) rfl w8.heap.size (ints .u8 F).toArray rfl rfl 24 _ (heap_alloc_new w8 _) hi32 hold (ints_all _ _) ?_)
        refine wp_world (fun w9 => Keep (· < w8.heap.size) w8 w9 ∧ w9.heap[w8.heap.size]? = some (.cells (ints .u8 F).toArray 24 (0, 0))) ⟨((Keep.refl _ _).alloc _ (fun _ h => h)).setRow _ (by simp), heap_setRow (heap_alloc_new w8 _) _⟩ ?_
        rintro w9 ⟨k9, h9⟩
        obtain ⟨d, hd⟩ : ∃ d, w8.heap.size = d := ⟨_, rfl⟩
        rw [hd] at k9 h9 hz8 ⊢
        have hd9 : d < w9.heap.size := (Array.getElem?_eq_some_iff.1 h9).1
        have hcF : Cells w9 (fun k => k < w9.heap.size) (.slice (some ⟨d, 0, none⟩) 32 32) (ints .u8 F) := by
          have := Cells.of_block (w := w9) (p := fun k => k < w9.heap.size) (cur := ints .u8 F) (off := 0) (n := 32) (cap := 32) h9 hd9 (by rw [ints_length, hFl]; decide) (Nat.le_refl _) (by decide)
          rwa [List.drop_zero, List.take_of_length_le (by rw [ints_length, hFl]; exact Nat.le_refl _)] at this
        have k79 : Keep (· < wr.heap.size) wr w9 := HK8.out.trans (k9.mono (fun k h => by omega))
        have HS9 := hid (HSr.out.keep k79)
        have hgtr : gt < wr.heap.size := by omega
        have cT9 : w9.cell? ⟨gt, k, none⟩ = some (.slice ta xs.length tc) := (k79.cell (x := ⟨gt, k, none⟩) hgtr).trans cT
        have hgt9 : gt < w9.heap.size := by omega
        have HCF := hid hcF
        have HXC9 := hid (HXC.out.keep k79 (fun _ h => h.1))
        have HK9 := hid (HK.out.trans (k79.mono (fun j h => Nat.lt_of_lt_of_le h hzr)))
        have hz9 := HK9.out.size
        clear k9 h9 hcF hold hi32 hd HK8 k79 cT cL
        have cF : Hid (∀ wx : World, Keep (· < w9.heap.size) w9 wx → (convert 22 9 (.slice (some ⟨d, 0, none⟩) 32 32)).run Tryd.prog wx = .ok (.string (bstr F)) wx) := fun wx kx => conv_bytes wx (HCF.out.keep kx (fun _ h => h))
        refine Txt.wp_region_text [true, false, true, true, true, true, true, true, true, true, true, true, true, true, true, true, false, false, true, true] (fun wx => Keep (· < w9.heap.size) w9 wx) (by kernel_rfl) (by kernel_rfl) ((Keep.refl _ _).drew) ?_
        iterate 1 (refine Txt.text_free rfl (fun K hK => ?_); go_simp; refine hK _ ?_; clear hK K)
        refine Txt.text_chain rfl (fun K hK => ?_)
        go_simp
        refine (len_walk b (Sha.St.new.take xs) w9.drew HG.out.1 (by rw [HG.out.2]; omega) (HS9.out.st k b xs HXK.out.1 HXK.out.2.1)).mono ?_
        rintro e wz ⟨rfl, rfl⟩
        rw [HG.out.2]
        refine hK _ _ ⟨(Keep.refl _ _).drew, ?_⟩
        clear hK K
        iterate 3 (refine Txt.text_free rfl (fun K hK => ?_); go_simp; refine hK _ ?_; clear hK K)
        refine Txt.text_held (.slice ta xs.length tc) rfl (fun w0 h0 => by have := (h0.cell (x := ⟨gt, k, none⟩) hgt9).trans cT9; go_simp) (fun K hK => hK _ ?_)
        iterate 3 (refine Txt.text_free rfl (fun K hK => ?_); go_simp; refine hK _ ?_; clear hK K)
        iterate 1 (refine Txt.text_free_g (by rfl) (fun K hK => ?_); go_simp; refine hK _ ?_; clear hK K)
        refine Txt.text_held_g (.string (bstr F)) (by rfl) (fun w0 h0 => by have := cF.out w0 h0; go_simp) (fun K hK => hK _ ?_)
        iterate 4 (refine Txt.text_free_g (by rfl) (fun K hK => ?_); go_simp; refine hK _ ?_; clear hK K)
        refine Txt.text_held_g (.slice ta xs.length tc) (by rfl) (fun w0 h0 => by have := (h0.cell (x := ⟨gt, k, none⟩) hgt9).trans cT9; go_simp) (fun K hK => hK _ ?_)
        refine Txt.text_chain_g (by rfl) (fun K hK => ?_)
        go_simp
        refine (refof_walk hb _ xs w9.drew _ (by omega) HXK.out.2.2 (PairAt.keep H4.out.2 HS9.out.kp.drew (fun j _ h => h)) (HXC9.out.keep ((Keep.refl (fun _ => True) _).drew) (fun _ _ => trivial))).mono ?_
        rintro e w10 ⟨vr, rfl, k10, h10⟩
        rw [HF.out] at h10
        have K10 := hid (show Keep (· < w9.heap.size) w9 w10 from (Keep.refl _ _).drew.trans k10)
        refine hK _ _ ⟨K10.out, ?_⟩
        clear hK K k10
        obtain ⟨ar, nr, cr, rfl, er, _, _, _⟩ := id h10
        rw [ints_length, hFl] at er
        subst er
        refine Txt.text_chain_g (by rfl) (fun K hK => ?_)
        have cR := conv_bytes w10 h10
        go_simp
        refine hK _ _ ⟨K10.out, ?_⟩
        clear hK K cR
        iterate 1 (refine Txt.text_free_g (by rfl) (fun K hK => ?_); go_simp; refine hK _ ?_; clear hK K)
        iterate 1 (refine Txt.text_free rfl (fun K hK => ?_); go_simp; refine hK _ ?_; clear hK K)
        refine Txt.text_done ?_
        have HK10 := hid (HK9.out.trans (K10.out.mono (fun j h => by omega)))
        go_wp2_with fail
        go_roundg (gk - 1)
        case measure => omega
        case rel => exact ⟨k + 1, by omega, by go_num, HK10.out⟩
      · obtain rfl : k = n := by omega
        go_wp2_with fail
        go_ret
        exact ⟨rfl, HKc.out.trans (HK.out.mono (fun j h => by omega))⟩
end Go.Proofs.YtjknjjcdgniodaaDoor
