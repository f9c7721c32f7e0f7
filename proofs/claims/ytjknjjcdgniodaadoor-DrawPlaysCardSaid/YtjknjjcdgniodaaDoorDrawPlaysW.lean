/-
  Step by step: the statement 'DrawPlays'.
-/
import Derived.Test.YtjknjjcdgniodaaDoorRefDraw2
import Derived.Test.YtjknjjcdgniodaaDoorAlive4
import Derived.Test.YtjknjjcdgniodaaDoorBytesK
import Derived.Test.YtjknjjcdgniodaaDoorNum
import Derived.Test.YtjknjjcdgniodaaDoorDraw4
import Derived.Test.YtjknjjcdgniodaaDoorIn4
namespace Go.Proofs.YtjknjjcdgniodaaDoor
open Go.RowKit Go.Proofs.Mem

set_option maxRecDepth 100000 in
set_option maxHeartbeats 1000000 in
theorem mnew_walk (hb : Nat) (u : Value) (seed : List Nat) (w : World) (p : Nat → Prop) (hl : seed.length ≤ 1099511627776) (hx : ∀ x ∈ seed, x < 256) (hW : WordsAt w hb Sha.St.new.ws Sha.turns) (hu : Cells w p u (ints .u8 seed)) :
    Calls Tryd.prog 41 #[.pointer (some ⟨hb, 0, none⟩), u] w fun e w' => ∃ wm m vr, e = .returned (.pointer (some ⟨m, 0, none⟩)) ∧ Keep (· < w.heap.size) w wm ∧ Born wm m hb vr (Sha.of seed) ∧ Keep (· < m) wm w' ∧ ModelAt w' m hb vr 0 0 := by
  have hz := hW.lt
  go_enter Tryd.func41, Tryd.ntmps41
  go_wp2_with fail
  refine (refof_walk hb u seed w p hl hx hW hu).mono ?_
  rintro e w1 ⟨vr, rfl, k1, h1⟩
  have H1 := hid (And.intro k1 (And.intro h1 (hW.keep k1 (fun j _ h => h))))
  clear k1 h1 hW hu
  obtain ⟨a, l, c, rfl, rfl, _⟩ := H1.out.2.1
  go_wp2_with fail
  go_ret
  have hz1 := H1.out.1.size
  refine ⟨w1, w1.heap.size, _, rfl, H1.out.1, ⟨of_length hx, of_lt, H1.out.2.2, H1.out.2.1.lt.mono (fun k h => ⟨?_, h.1⟩), rfl⟩, (Keep.refl _ _).alloc _ (fun _ h => h), heap_alloc_new w1 _⟩
  have := h.2
  omega

/-- both streams and clocks. -/
structure Both (w wm wX : World) (b m hb : Nat) (vr : Value) (R : List Nat) (t n s q : Nat) : Prop where
  dr : DrawAt wX b R t n
  md : ModelAt wX m hb vr s q
  k : Keep (· < w.heap.size) w wX
  km : Keep (fun j => hb ≤ j ∧ j < m) wm wX
  g : w.heap.size ≤ b ∧ b < hb ∧ hb < m
theorem Both.keep {w wm wX w' : World} {b m hb : Nat} {vr : Value} {R : List Nat} {t n s q : Nat} (h : Both w wm wX b m hb vr R t n s q) (k : Keep (· < wX.heap.size) wX w') : Both w wm w' b m hb vr R t n s q :=
  ⟨h.dr.keep k h.dr.lt, h.md.keep k h.md.lt, h.k.trans (k.mono (fun _ hj => Nat.lt_of_lt_of_le hj h.k.size)), h.km.trans (k.mono (fun _ hj => Nat.lt_trans hj.2 h.md.lt)), h.g⟩
theorem Both.read {w wm wX w' : World} {b m hb : Nat} {vr : Value} {R : List Nat} {t n s q : Nat} (h : Both w wm wX b m hb vr R t n s q) (k : Keep (fun _ => True) wX w') : Both w wm w' b m hb vr R t n s q := h.keep (k.mono (fun _ _ => trivial))
theorem Both.draw {w wm wX w' : World} {b m hb : Nat} {vr : Value} {R : List Nat} {t n s q t' n' : Nat} (h : Both w wm wX b m hb vr R t n s q) (k : Keep (fun j => j < wX.heap.size ∧ j ≠ b) wX w') (h' : DrawAt w' b R t' n') : Both w wm w' b m hb vr R t' n' s q := by
  obtain ⟨g1, g2, g3⟩ := h.g
  have hl := h.md.lt
  exact ⟨h', h.md.keep k ⟨hl, by omega⟩, h.k.trans (k.mono (fun _ hj => ⟨Nat.lt_of_lt_of_le hj h.k.size, by omega⟩)), h.km.trans (k.mono (fun _ hj => ⟨by omega, by omega⟩)), ⟨g1, g2, g3⟩⟩
theorem Both.model {w wm wX w' : World} {b m hb : Nat} {vr : Value} {R : List Nat} {t n s q s' q' : Nat} (h : Both w wm wX b m hb vr R t n s q) (k : Keep (fun j => j < wX.heap.size ∧ j ≠ m) wX w') (h' : ModelAt w' m hb vr s' q') : Both w wm w' b m hb vr R t n s' q' := by
  obtain ⟨g1, g2, g3⟩ := h.g
  have hl := h.md.lt
  exact ⟨h.dr.keep k ⟨h.dr.lt, by omega⟩, h', h.k.trans (k.mono (fun _ hj => ⟨Nat.lt_of_lt_of_le hj h.k.size, by omega⟩)), h.km.trans (k.mono (fun _ hj => ⟨by omega, by omega⟩)), ⟨g1, g2, g3⟩⟩
set_option maxRecDepth 100000 in
set_option maxHeartbeats 4000000 in
theorem drawPlays_walk (u v : Value) (seed : List Nat) (L : Nat) (KK NN : Nat → Int) (es : List Addr) (w : World) (p : Nat → Prop) (hx : ∀ x ∈ seed, x < 256) (hT : TurnsAt w) (he : ErrsAt w errGs es) (hd : es.Nodup) (hu : Cells w p u (ints .u8 seed)) (hv : IsPairs w v L KK NN) :
    Calls Tryd.prog 14 #[u, v] w fun e w' => e = .returned (.bool true) ∧ Keep (· < w.heap.size) w w' := by
  have Hu := hid (hu.lt.mono (fun _ h => h.1))
  have HT := hid hT
  have HE := hid (And.intro he hd)
  have hl : es.length = 17 := he.length
  obtain ⟨a0, ha0⟩ : ∃ a, es[0]? = some a := ⟨_, List.getElem?_eq_getElem (by omega)⟩
  have HA0 := hid ha0
  have HE0 := hid (show ErrAt w 0 a0 by
    obtain ⟨g, hg, h⟩ := errs_get he 0 a0 ha0
    obtain rfl : g = 0 := (Option.some.inj hg).symm
    exact h)
  clear ha0
  have hgt := hT.lt
  clear hu hT he hd
  obtain ⟨a1, n1, c1, rfl, e1, m1, q1, _⟩ := Hu.out
  rw [ints_length] at e1
  subst e1
  have q1' : c1 ≤ 9223372036854775807 := by simpa [maxLen] using q1
  obtain ⟨a2, c2, rfl, m2, q2, hcl⟩ := hv
  have q2' : c2 ≤ 9223372036854775807 := by simpa [maxLen] using q2
  have HCL := hid hcl
  clear q1 q2 hcl
  go_enter Tryd.func14, Tryd.ntmps14
  go_wp2_with fail
  refine (alive4_walk w HT.out).mono ?_
  rintro e w1 ⟨rfl, k1⟩
  have H1 := hid k1
  have hz1 := k1.size
  clear k1
  by_cases g1 : 3000 < seed.length
  · have g1' : decide ((3000 : Int) < (seed.length : Int)) = true := by simp; omega
    go_wp2_with fail
    go_ret
    exact ⟨rfl, H1.out⟩
  have g1' : decide ((3000 : Int) < (seed.length : Int)) = false := by simp; omega
  go_wp2_with fail
  refine (bytes_walk _ seed w1 _ (by omega) (Hu.out.keep H1.out (fun _ h => h))).mono ?_
  rintro e w2 ⟨vi, rfl, k2, hm2⟩
  have H2 := hid (And.intro (H1.out.trans (k2.mono (fun k h => Nat.lt_of_lt_of_le h hz1))) hm2)
  have hz2 : w.heap.size ≤ w2.heap.size := H2.out.1.size
  clear k2 hm2
  go_wp2_with fail
  refine (drawnew_walk _ seed w2 _ hx (by omega) (HT.out.keep H2.out.1 HT.out.lt) H2.out.2.cells).mono ?_
  rintro e w3 ⟨b, rfl, hwb, k3, h3⟩
  obtain ⟨R, hR⟩ : ∃ R, Sha.of seed = R := ⟨_, rfl⟩
  have hRl : R.length = 32 := by rw [← hR]; exact of_length hx
  have hRb : ∀ x ∈ R, x < 256 := by rw [← hR]; exact of_lt
  rw [hR] at h3
  have H3 := hid (And.intro (H2.out.1.trans (k3.mono (fun k h => Nat.lt_of_lt_of_le h hz2))) (And.intro (H2.out.2.keep k3 (fun j _ h => h)) h3))
  have hb3 := h3.lt
  clear k3 h3
  have HR := hid (And.intro hR hRb)
  clear hR hRb
  go_wp2_with fail
  refine (refnew_walk w3).mono ?_
  rintro e w4 ⟨rfl, k4, h4⟩
  have hz4 := k4.size
  have H4 := hid (And.intro (H3.out.1.trans (k4.mono (fun k h => by omega))) (And.intro (H3.out.2.1.keep k4 (fun j _ h => h)) (And.intro (H3.out.2.2.keep k4 hb3) h4)))
  have hb4 := h4.lt
  clear k4 h4
  obtain ⟨hb, hhb⟩ : ∃ hb, w3.heap.size = hb := ⟨_, rfl⟩
  rw [hhb] at H4 hb3 hb4 hz4 ⊢
  clear hhb
  go_wp2_with fail
  refine (mnew_walk hb _ seed w4 _ (by omega) hx H4.out.2.2.2 (Hu.out.keep H4.out.1 (fun _ h => h))).mono ?_
  rintro e w5 ⟨wm, m, vr, rfl, k5, hB, k5', hM⟩
  rw [HR.out.1] at hB
  have hmz := hB.size
  have hz5 := k5.size
  have k45 : Keep (· < w4.heap.size) w4 w5 := k5.trans (k5'.mono (fun k h => by omega))
  have H5 := hid (And.intro (H4.out.1.trans (k45.mono (fun k h => by omega))) (And.intro (H4.out.2.1.keep k45 (fun j _ h => h)) (And.intro (H4.out.2.2.1.keep k45 (by omega)) (And.intro hB (And.intro k5' hM)))))
  clear k5 hB k5' hM k45
  have hbm : b < m := by omega
  have hml := H5.out.2.2.2.2.2.lt
  obtain ⟨g, cap, cur, rfl, hBg, hg, hcs, hcap, hcm, htk⟩ := H5.out.2.1
  have hgw : w.heap.size ≤ g := by omega
  have hgb : g < b := by
    obtain ⟨g', cap', cur', eg, _, hg', _⟩ := H2.out.2
    injection eg with eg _ _
    injection eg with eg
    injection eg with eg _ _
    subst eg
    have := (Array.getElem?_eq_some_iff.1 hg').1
    omega
  have H6 := hid (show (∀ i, i < seed.length → ∃ x : Nat, x < 256 ∧ cur[i]? = some (.int .u8 (x : Int))) ∧ w5.heap[g]? = some (.cells cur 5 (0, 0)) from ⟨fun i hi => by
    have e1 : cur.toList[i]? = (cur.toList.take (seed.length + 6))[i]? := by rw [List.getElem?_take, if_pos (by omega)]
    have e2 : (seed ++ marks6).getD i 0 = seed.getD i 0 := by rw [List.getD_eq_getElem?_getD, List.getElem?_append_left hi, ← List.getD_eq_getElem?_getD]
    refine ⟨seed.getD i 0, hx _ (by rw [List.getD_eq_getElem?_getD, List.getElem?_eq_getElem hi]; exact List.getElem_mem hi), ?_⟩
    rw [← Array.getElem?_toList, e1, htk, ints_get _ _ _ (by rw [List.length_append]; omega), e2], hg⟩)
  have hcm' : cap ≤ 9223372036854775807 := by simpa [maxLen] using hcm
  have hcur : seed.length ≤ cur.size := by omega
  clear hg htk hcs hcm
  go_wp2_with fail
  go_loopg [30] seed.length (fun k s30 wr => ∃ i, i + k = seed.length ∧ s30 = .int .i64 (i : Int) ∧ Keep (fun j => j ≠ g) w5 wr ∧ Hid (∃ cl : List Value, wr.heap[g]? = some (.cells cl.toArray 5 (0, 0)) ∧ ∀ j, j < seed.length → ∃ x : Nat, x < 256 ∧ cl[j]? = some (.int .u8 (x : Int))))
  case atStart => exact ⟨0, by omega, rfl, Keep.refl _ _, hid ⟨cur.toList, by simpa using H6.out.2, fun j hj => by simpa using H6.out.1 j hj⟩⟩
  case round =>
    obtain ⟨i, hi, rfl, hk, hcl⟩ := hrel
    have HK := hid hk
    clear hk
    by_cases hin : i < seed.length
    · obtain ⟨cl, hg, hx6⟩ := hcl.out
      obtain ⟨x, hxl, hxc⟩ := hx6 i hin
      have cx : wr.cell? ⟨g, i, none⟩ = some (.int .u8 (x : Int)) := (cell_at hg i).trans hxc
      have fx : wr.frozen? ⟨g, i, none⟩ = false := frozen_at hg i
      have v1 : bits .xor .u8 (x : Int) 85 = ((x ^^^ 85 : Nat) : Int) := u8_xor_nat x 85 hxl (by decide)
      have y1 : x ^^^ 85 < 256 := Nat.xor_lt_two_pow (n := 8) hxl (by decide)
      obtain ⟨y, hy⟩ : ∃ y, x ^^^ 85 = y := ⟨_, rfl⟩
      rw [hy] at v1 y1
      have l0 : (i : Int) < (seed.length : Int) := by omega
      have HG := hid (And.intro hg hx6)
      clear hg hx6 hxc hy hcl
      go_wp2_with fail
      go_roundg (gk - 1)
      case measure => omega
      case rel =>
        refine ⟨i + 1, by omega, by go_num, HK.out.setCell _ (by simp), hid ⟨_, set_at HG.out.1 i _, fun j hj => ?_⟩⟩
        by_cases hij : i = j
        · subst hij
          obtain ⟨x', _, hx'⟩ := HG.out.2 i hj
          exact ⟨y, y1, by rw [List.getElem?_set_self]; exact (List.getElem?_eq_some_iff.1 hx').1⟩
        · obtain ⟨x', h1, h2⟩ := HG.out.2 j hj
          exact ⟨x', h1, by rw [List.getElem?_set_ne hij]; exact h2⟩
    · obtain rfl : i = seed.length := by omega
      have H7 := hid (And.intro (H5.out.1.trans (HK.out.mono (fun k h => by omega))) (And.intro (H5.out.2.2.1.keep HK.out (by omega)) (And.intro H5.out.2.2.2.1 (And.intro ((H5.out.2.2.2.2.1.mono (fun k (h : hb ≤ k ∧ k < m) => h.2)).trans (HK.out.mono (fun k h => by omega))) (H5.out.2.2.2.2.2.keep HK.out (by omega))))))
      clear HK hcl H6
      clear H5 H4 H3 H2
      go_wp2_with fail
      go_loopg [42] L (fun k s42 wr => ∃ i t n : Nat, i + k = L ∧ s42 = .int .i64 (i : Int) ∧ t ≤ 64 * i ∧ i ≤ 101 ∧ n ≤ 1099511627776 ∧ Hid (DrawAt wr b R t n ∧ ModelAt wr m hb vr t n ∧ Keep (· < w.heap.size) w wr ∧ Keep (fun j => hb ≤ j ∧ j < m) wm wr))
      case atStart => exact ⟨0, 0, 0, by omega, rfl, Nat.le_refl _, by decide, by decide, hid ⟨H7.out.2.1, H7.out.2.2.2.2, H7.out.1, H7.out.2.2.2.1⟩⟩
      case round =>
        have HB := hid H7.out.2.2.1
        clear H7
        obtain ⟨i, t, n, hi, rfl, ht, hi101, hn, HH⟩ := hrel
        by_cases hiL : i < L
        · obtain ⟨blk, off, rfl, hbl, ck, cn, wk, wn⟩ := HCL.out i hiL
          have hbr : b < wr.heap.size := HH.out.1.lt
          have hmr : m < wr.heap.size := HH.out.2.1.lt
          obtain ⟨kv, hkv⟩ : ∃ kv, KK i = kv := ⟨_, rfl⟩
          obtain ⟨nv, hnv⟩ : ∃ nv, NN i = nv := ⟨_, rfl⟩
          rw [hkv] at ck wk
          rw [hnv] at cn wn
          have ck' : wr.cell? ⟨blk, off + i * 2, none⟩ = some (.int .i64 kv) := (HH.out.2.2.1.cell (x := ⟨blk, off + i * 2, none⟩) hbl).trans ck
          have cn' : wr.cell? ⟨blk, off + i * 2 + 1, none⟩ = some (.int .i64 nv) := (HH.out.2.2.1.cell (x := ⟨blk, off + i * 2 + 1, none⟩) hbl).trans cn
          have hnr : -9223372036854775808 ≤ nv ∧ nv ≤ 9223372036854775807 := by simp [Lit.wf, IntKind.min, IntKind.max, IntKind.signed, IntKind.bits] at wn; omega
          have l0 : (i : Int) < (L : Int) := by omega
          clear ck cn wk wn hkv hnv
          by_cases h100 : 100 < i
          · have t1 : decide ((100 : Int) < (i : Int)) = true := by simp; omega
            go_wp2_with fail
            go_ret
            exact ⟨rfl, HH.out.2.2.1.alloc _ (fun k h => Nat.lt_of_lt_of_le h HH.out.2.2.1.size)⟩
          have t1 : decide ((100 : Int) < (i : Int)) = false := by simp; omega
          go_upto_region 16 with (fail)
          have HS0 : Both w wm (wr.alloc (.cells #[.int .i64 kv, .int .i64 nv] 72)) b m hb vr R t n t n := (Both.mk HH.out.1 HH.out.2.1 HH.out.2.2.1 HH.out.2.2.2 ⟨by omega, by omega, by omega⟩).keep ((Keep.refl _ _).alloc _ (fun _ h => h))
          refine wp_world (fun w7 => Both w wm w7 b m hb vr R t n t n ∧ w7.heap[wr.heap.size]? = some (.cells [.int .i64 kv, .int .i64 nv].toArray 72 (0, 0))) ⟨HS0, heap_alloc_new wr _⟩ ?_
          clear HS0
          rintro w7 ⟨hs, h7⟩
          obtain ⟨o, ho⟩ : ∃ o, wr.heap.size = o := ⟨_, rfl⟩
          rw [ho] at h7 ⊢
          have hmo : m < o := by omega
          have hbo : b < o := by omega
          have cK : w7.cell? ⟨o, 0, none⟩ = some (.int .i64 kv) := cell_at h7 0
          have cO : w7.cell? ⟨o, 1, none⟩ = some (.int .i64 nv) := cell_at h7 1
          have ho7 : o < w7.heap.size := (Array.getElem?_eq_some_iff.1 h7).1
          have HS := hid hs
          have hi100 : i ≤ 100 := by omega
          have hwb' : w.heap.size ≤ b := by omega
          clear HH ck' cn' hs h7 ho hbr hmr
          by_cases z1 : kv = 1
          · subst z1
            go_wp2_with fail
            refine (dword_walk b R t n w7 (by omega) ⟨hRl, HR.out.2, HT.out.keep HS.out.k HT.out.lt, by omega⟩ HS.out.dr).mono ?_
            rintro e wa ⟨rfl, ka, ha⟩
            have H8 := hid (HS.out.draw ka ha)
            obtain ⟨x, hxx⟩ : ∃ x, Drw.wordN R t = x := ⟨_, rfl⟩
            rw [hxx]
            clear ka ha
            go_wp2_with fail
            refine (mnext_walk wm m hb vr R t n wa (by omega) HB.out H8.out.km H8.out.md).mono ?_
            rintro e wb ⟨rfl, kb, hb'⟩
            rw [hxx]
            have H9 := hid (H8.out.model kb hb')
            obtain ⟨t', ht'⟩ : ∃ t', t + 1 = t' := ⟨_, rfl⟩
            rw [ht'] at H9
            clear kb hb' hxx H8
            go_wp2_with fail
            have hL := hid (H9.out.read ((Keep.refl (fun _ => True) _).drew))
            have cs := hL.out.md.cells
            have csw := And.intro cs.2.2.1 cs.2.2.2.1
            clear cs
            refine Txt.wp_region_text [true, true, true, true, false, true, true, true, true, true, true, true, true, false, true, true, true, true, true, true] (fun wx => wx.cell? ⟨m, 2, none⟩ = some (.int .i64 (t' : Int)) ∧ wx.cell? ⟨m, 3, none⟩ = some (.int .i64 (n : Int))) (by kernel_rfl) (by kernel_rfl) csw ?_
            iterate 3 (refine Txt.text_free rfl (fun K hK => ?_); go_simp; refine hK _ ?_; clear hK K)
            iterate 1 (refine Txt.text_free_g (by rfl) (fun K hK => ?_); go_simp; refine hK _ ?_; clear hK K)
            refine Txt.text_chain_g (by rfl) (fun K hK => ?_)
            go_simp
            refine (dtaken_walk b R t' n _ hRl hL.out.dr).mono ?_
            rintro e wz ⟨rfl, rfl⟩
            refine hK _ _ ⟨csw, ?_⟩
            clear hK K
            iterate 3 (refine Txt.text_free_g (by rfl) (fun K hK => ?_); go_simp; refine hK _ ?_; clear hK K)
            refine Txt.text_held_g (.int .i64 (t' : Int)) (by rfl) (fun w0 h0 => by have := h0.1; go_simp) (fun K hK => hK _ ?_)
            iterate 1 (refine Txt.text_free_g (by rfl) (fun K hK => ?_); go_simp; refine hK _ ?_; clear hK K)
            iterate 2 (refine Txt.text_free rfl (fun K hK => ?_); go_simp; refine hK _ ?_; clear hK K)
            iterate 1 (refine Txt.text_free_g (by rfl) (fun K hK => ?_); go_simp; refine hK _ ?_; clear hK K)
            refine Txt.text_chain_g (by rfl) (fun K hK => ?_)
            go_simp
            refine (dnow_walk b R t' n _ hRl hL.out.dr).mono ?_
            rintro e wz ⟨rfl, rfl⟩
            refine hK _ _ ⟨csw, ?_⟩
            clear hK K
            iterate 3 (refine Txt.text_free_g (by rfl) (fun K hK => ?_); go_simp; refine hK _ ?_; clear hK K)
            refine Txt.text_held_g (.int .i64 (n : Int)) (by rfl) (fun w0 h0 => by have := h0.2; go_simp) (fun K hK => hK _ ?_)
            iterate 1 (refine Txt.text_free_g (by rfl) (fun K hK => ?_); go_simp; refine hK _ ?_; clear hK K)
            iterate 1 (refine Txt.text_free rfl (fun K hK => ?_); go_simp; refine hK _ ?_; clear hK K)
            refine Txt.text_done ?_
            go_wp2_with fail
            go_roundg (gk - 1)
            case measure => omega
            case rel => exact ⟨i + 1, t', n, by omega, by go_num, by omega, by omega, by omega, hid ⟨hL.out.dr, hL.out.md, hL.out.k, hL.out.km⟩⟩
          have kk1 : (kv == 1) = false := by simpa using z1
          by_cases z2 : kv = 2
          · subst z2
            by_cases h1 : nv < 1
            · go_wp2_with fail
              refine (dpick_bad b nv _ w7 h1 (HE0.out.keep HS.out.k HE0.out.lt HE0.out.blt).cell).mono ?_
              rintro e wa ⟨rfl, ka⟩
              have H8 := hid (HS.out.read ka)
              have cOa : wa.cell? ⟨o, 1, none⟩ = some (.int .i64 nv) := (ka.cell (x := ⟨o, 1, none⟩) trivial).trans cO
              clear ka
              go_wp2_with fail
              refine (mpick_bad m nv wa h1).mono ?_
              rintro e wb ⟨rfl, rfl⟩
              go_wp2_with fail
              refine (num_at es 0 a0 wa (HE.out.1.keep H8.out.k (fun _ h => h)) HE.out.2 HA0.out).mono ?_
              rintro e wb ⟨rfl, kb⟩
              have H9 := hid (H8.out.keep kb)
              clear kb H8 cOa
              go_wp2_with fail
              have hL := hid (H9.out.read ((Keep.refl (fun _ => True) _).drew))
              have cs := hL.out.md.cells
              have csw := And.intro cs.2.2.1 cs.2.2.2.1
              clear cs
              refine Txt.wp_region_text [true, true, true, true, false, true, true, true, true, true, true, true, true, false, true, true, true, true, true, true] (fun wx => wx.cell? ⟨m, 2, none⟩ = some (.int .i64 (t : Int)) ∧ wx.cell? ⟨m, 3, none⟩ = some (.int .i64 (n : Int))) (by kernel_rfl) (by kernel_rfl) csw ?_
              iterate 3 (refine Txt.text_free rfl (fun K hK => ?_); go_simp; refine hK _ ?_; clear hK K)
              iterate 1 (refine Txt.text_free_g (by rfl) (fun K hK => ?_); go_simp; refine hK _ ?_; clear hK K)
              refine Txt.text_chain_g (by rfl) (fun K hK => ?_)
              go_simp
              refine (dtaken_walk b R t n _ hRl hL.out.dr).mono ?_
              rintro e wz ⟨rfl, rfl⟩
              refine hK _ _ ⟨csw, ?_⟩
              clear hK K
              iterate 3 (refine Txt.text_free_g (by rfl) (fun K hK => ?_); go_simp; refine hK _ ?_; clear hK K)
              refine Txt.text_held_g (.int .i64 (t : Int)) (by rfl) (fun w0 h0 => by have := h0.1; go_simp) (fun K hK => hK _ ?_)
              iterate 1 (refine Txt.text_free_g (by rfl) (fun K hK => ?_); go_simp; refine hK _ ?_; clear hK K)
              iterate 2 (refine Txt.text_free rfl (fun K hK => ?_); go_simp; refine hK _ ?_; clear hK K)
              iterate 1 (refine Txt.text_free_g (by rfl) (fun K hK => ?_); go_simp; refine hK _ ?_; clear hK K)
              refine Txt.text_chain_g (by rfl) (fun K hK => ?_)
              go_simp
              refine (dnow_walk b R t n _ hRl hL.out.dr).mono ?_
              rintro e wz ⟨rfl, rfl⟩
              refine hK _ _ ⟨csw, ?_⟩
              clear hK K
              iterate 3 (refine Txt.text_free_g (by rfl) (fun K hK => ?_); go_simp; refine hK _ ?_; clear hK K)
              refine Txt.text_held_g (.int .i64 (n : Int)) (by rfl) (fun w0 h0 => by have := h0.2; go_simp) (fun K hK => hK _ ?_)
              iterate 1 (refine Txt.text_free_g (by rfl) (fun K hK => ?_); go_simp; refine hK _ ?_; clear hK K)
              iterate 1 (refine Txt.text_free rfl (fun K hK => ?_); go_simp; refine hK _ ?_; clear hK K)
              refine Txt.text_done ?_
              go_wp2_with fail
              go_roundg (gk - 1)
              case measure => omega
              case rel => exact ⟨i + 1, t, n, by omega, by go_num, by omega, by omega, by omega, hid ⟨hL.out.dr, hL.out.md, hL.out.k, hL.out.km⟩⟩
            by_cases h2 : nv = 1
            · subst h2
              go_wp2_with fail
              refine (dpick_one b w7).mono ?_
              rintro e wa ⟨rfl, rfl⟩
              go_wp2_with fail
              refine (mpick_one m w7).mono ?_
              rintro e wb ⟨rfl, rfl⟩
              go_wp2_with fail
              refine (num_nil w7).mono ?_
              rintro e wb ⟨rfl, rfl⟩
              go_wp2_with fail
              have hL := hid (HS.out.read ((Keep.refl (fun _ => True) _).drew))
              have cs := hL.out.md.cells
              have csw := And.intro cs.2.2.1 cs.2.2.2.1
              clear cs
              refine Txt.wp_region_text [true, true, true, true, false, true, true, true, true, true, true, true, true, false, true, true, true, true, true, true] (fun wx => wx.cell? ⟨m, 2, none⟩ = some (.int .i64 (t : Int)) ∧ wx.cell? ⟨m, 3, none⟩ = some (.int .i64 (n : Int))) (by kernel_rfl) (by kernel_rfl) csw ?_
              iterate 3 (refine Txt.text_free rfl (fun K hK => ?_); go_simp; refine hK _ ?_; clear hK K)
              iterate 1 (refine Txt.text_free_g (by rfl) (fun K hK => ?_); go_simp; refine hK _ ?_; clear hK K)
              refine Txt.text_chain_g (by rfl) (fun K hK => ?_)
              go_simp
              refine (dtaken_walk b R t n _ hRl hL.out.dr).mono ?_
              rintro e wz ⟨rfl, rfl⟩
              refine hK _ _ ⟨csw, ?_⟩
              clear hK K
              iterate 3 (refine Txt.text_free_g (by rfl) (fun K hK => ?_); go_simp; refine hK _ ?_; clear hK K)
              refine Txt.text_held_g (.int .i64 (t : Int)) (by rfl) (fun w0 h0 => by have := h0.1; go_simp) (fun K hK => hK _ ?_)
              iterate 1 (refine Txt.text_free_g (by rfl) (fun K hK => ?_); go_simp; refine hK _ ?_; clear hK K)
              iterate 2 (refine Txt.text_free rfl (fun K hK => ?_); go_simp; refine hK _ ?_; clear hK K)
              iterate 1 (refine Txt.text_free_g (by rfl) (fun K hK => ?_); go_simp; refine hK _ ?_; clear hK K)
              refine Txt.text_chain_g (by rfl) (fun K hK => ?_)
              go_simp
              refine (dnow_walk b R t n _ hRl hL.out.dr).mono ?_
              rintro e wz ⟨rfl, rfl⟩
              refine hK _ _ ⟨csw, ?_⟩
              clear hK K
              iterate 3 (refine Txt.text_free_g (by rfl) (fun K hK => ?_); go_simp; refine hK _ ?_; clear hK K)
              refine Txt.text_held_g (.int .i64 (n : Int)) (by rfl) (fun w0 h0 => by have := h0.2; go_simp) (fun K hK => hK _ ?_)
              iterate 1 (refine Txt.text_free_g (by rfl) (fun K hK => ?_); go_simp; refine hK _ ?_; clear hK K)
              iterate 1 (refine Txt.text_free rfl (fun K hK => ?_); go_simp; refine hK _ ?_; clear hK K)
              refine Txt.text_done ?_
              go_wp2_with fail
              go_roundg (gk - 1)
              case measure => omega
              case rel => exact ⟨i + 1, t, n, by omega, by go_num, by omega, by omega, by omega, hid ⟨hL.out.dr, hL.out.md, hL.out.k, hL.out.km⟩⟩
            · obtain ⟨k, rfl⟩ : ∃ k : Nat, nv = (k : Int) := ⟨nv.toNat, by omega⟩
              have h3 : 2 ≤ k := by omega
              have h4 : k ≤ 9223372036854775807 := by omega
              clear h1 h2
              go_wp2_with fail
              refine (dpick_walk b R t n k w7 (by omega) h3 h4 ⟨hRl, HR.out.2, HT.out.keep HS.out.k HT.out.lt, by omega⟩ HS.out.dr).mono ?_
              rintro e wa ⟨rfl, ka, ha⟩
              have H8 := hid (HS.out.draw ka ha)
              have cOa : wa.cell? ⟨o, 1, none⟩ = some (.int .i64 (k : Int)) := (ka.cell (x := ⟨o, 1, none⟩) ⟨ho7, by show o ≠ b; omega⟩).trans cO
              obtain ⟨p1, p2, p3⟩ := Drw.pickTo_lt R k (by omega) 63 (Drw.wordN R t) (t + 1)
              obtain ⟨x, hxx⟩ : ∃ x, (Drw.pick R k t).1 = x := ⟨_, rfl⟩
              obtain ⟨t', htt⟩ : ∃ x, (Drw.pick R k t).2 = x := ⟨_, rfl⟩
              have ht1 : t + 1 ≤ t' := by rw [← htt]; exact p2
              have ht2 : t' ≤ t + 64 := by rw [← htt]; exact p3
              rw [hxx]
              clear ka ha p1 p2 p3
              go_wp2_with fail
              refine (mpick_walk wm m hb vr R t n k wa (by omega) h3 h4 HB.out H8.out.km H8.out.md).mono ?_
              rintro e wb ⟨rfl, kb, hb'⟩
              have H9 := hid (H8.out.model kb hb')
              rw [htt] at H9
              rw [hxx]
              clear kb hb' hxx htt H8
              go_wp2_with fail
              refine (num_nil wb).mono ?_
              rintro e wc ⟨rfl, rfl⟩
              go_wp2_with fail
              have hL := hid (H9.out.read ((Keep.refl (fun _ => True) _).drew))
              have cs := hL.out.md.cells
              have csw := And.intro cs.2.2.1 cs.2.2.2.1
              clear cs
              refine Txt.wp_region_text [true, true, true, true, false, true, true, true, true, true, true, true, true, false, true, true, true, true, true, true] (fun wx => wx.cell? ⟨m, 2, none⟩ = some (.int .i64 (t' : Int)) ∧ wx.cell? ⟨m, 3, none⟩ = some (.int .i64 (n : Int))) (by kernel_rfl) (by kernel_rfl) csw ?_
              iterate 3 (refine Txt.text_free rfl (fun K hK => ?_); go_simp; refine hK _ ?_; clear hK K)
              iterate 1 (refine Txt.text_free_g (by rfl) (fun K hK => ?_); go_simp; refine hK _ ?_; clear hK K)
              refine Txt.text_chain_g (by rfl) (fun K hK => ?_)
              go_simp
              refine (dtaken_walk b R t' n _ hRl hL.out.dr).mono ?_
              rintro e wz ⟨rfl, rfl⟩
              refine hK _ _ ⟨csw, ?_⟩
              clear hK K
              iterate 3 (refine Txt.text_free_g (by rfl) (fun K hK => ?_); go_simp; refine hK _ ?_; clear hK K)
              refine Txt.text_held_g (.int .i64 (t' : Int)) (by rfl) (fun w0 h0 => by have := h0.1; go_simp) (fun K hK => hK _ ?_)
              iterate 1 (refine Txt.text_free_g (by rfl) (fun K hK => ?_); go_simp; refine hK _ ?_; clear hK K)
              iterate 2 (refine Txt.text_free rfl (fun K hK => ?_); go_simp; refine hK _ ?_; clear hK K)
              iterate 1 (refine Txt.text_free_g (by rfl) (fun K hK => ?_); go_simp; refine hK _ ?_; clear hK K)
              refine Txt.text_chain_g (by rfl) (fun K hK => ?_)
              go_simp
              refine (dnow_walk b R t' n _ hRl hL.out.dr).mono ?_
              rintro e wz ⟨rfl, rfl⟩
              refine hK _ _ ⟨csw, ?_⟩
              clear hK K
              iterate 3 (refine Txt.text_free_g (by rfl) (fun K hK => ?_); go_simp; refine hK _ ?_; clear hK K)
              refine Txt.text_held_g (.int .i64 (n : Int)) (by rfl) (fun w0 h0 => by have := h0.2; go_simp) (fun K hK => hK _ ?_)
              iterate 1 (refine Txt.text_free_g (by rfl) (fun K hK => ?_); go_simp; refine hK _ ?_; clear hK K)
              iterate 1 (refine Txt.text_free rfl (fun K hK => ?_); go_simp; refine hK _ ?_; clear hK K)
              refine Txt.text_done ?_
              go_wp2_with fail
              go_roundg (gk - 1)
              case measure => omega
              case rel => exact ⟨i + 1, t', n, by omega, by go_num, by omega, by omega, by omega, hid ⟨hL.out.dr, hL.out.md, hL.out.k, hL.out.km⟩⟩
          have kk2 : (kv == 2) = false := by simpa using z2
          by_cases z3 : kv = 3
          · subst z3
            by_cases h1 : nv < 0 ∨ 1099511627776 - (n : Int) < nv
            · go_wp2_with fail
              refine Txt.wp_region_text [true, true, true, false, false, true, true, true, false, true, true] (fun wx => wx.cell? ⟨o, 1, none⟩ = some (.int .i64 nv)) (by kernel_rfl) (by kernel_rfl) cO ?_
              iterate 2 (refine Txt.text_free rfl (fun K hK => ?_); go_simp; refine hK _ ?_; clear hK K)
              refine Txt.text_held (.int .i64 nv) rfl (fun w0 h0 => by go_simp) (fun K hK => hK _ ?_)
              refine Txt.text_chain rfl (fun K hK => ?_)
              go_simp
              have Hd := hid (HS.out.read ((Keep.refl (fun _ => True) _).drew))
              refine (dtick_bad b R t n nv _ _ h1 hn hRl Hd.out.dr (HE0.out.keep Hd.out.k HE0.out.lt HE0.out.blt).cell).mono ?_
              rintro e wa ⟨rfl, rfl⟩
              refine hK _ _ ⟨cO, ?_⟩
              clear hK K
              refine Txt.text_chain rfl (fun K hK => ?_)
              go_simp
              refine (num_at es 0 a0 _ (HE.out.1.keep Hd.out.k (fun _ h => h)) HE.out.2 HA0.out).mono ?_
              rintro e wb ⟨rfl, kb⟩
              have H9 := hid (Hd.out.keep kb)
              have cOb : wb.cell? ⟨o, 1, none⟩ = some (.int .i64 nv) := (kb.cell (x := ⟨o, 1, none⟩) ho7).trans cO
              clear kb
              refine hK _ _ ⟨cOb, ?_⟩
              clear hK K
              iterate 2 (refine Txt.text_free rfl (fun K hK => ?_); go_simp; refine hK _ ?_; clear hK K)
              refine Txt.text_held (.int .i64 nv) rfl (fun w0 h0 => by go_simp) (fun K hK => hK _ ?_)
              refine Txt.text_chain rfl (fun K hK => ?_)
              go_simp
              refine (mtick_bad m hb vr t n nv wb h1 hnr.2 H9.out.md).mono ?_
              rintro e wz ⟨rfl, rfl⟩
              refine hK _ _ ⟨cOb, ?_⟩
              clear hK K
              iterate 2 (refine Txt.text_free rfl (fun K hK => ?_); go_simp; refine hK _ ?_; clear hK K)
              refine Txt.text_done ?_
              go_wp2_with fail
              have hL := hid (H9.out.read ((Keep.refl (fun _ => True) _).drew))
              have cs := hL.out.md.cells
              have csw := And.intro cs.2.2.1 cs.2.2.2.1
              clear cs
              refine Txt.wp_region_text [true, true, true, true, false, true, true, true, true, true, true, true, true, false, true, true, true, true, true, true] (fun wx => wx.cell? ⟨m, 2, none⟩ = some (.int .i64 (t : Int)) ∧ wx.cell? ⟨m, 3, none⟩ = some (.int .i64 (n : Int))) (by kernel_rfl) (by kernel_rfl) csw ?_
              iterate 3 (refine Txt.text_free rfl (fun K hK => ?_); go_simp; refine hK _ ?_; clear hK K)
              iterate 1 (refine Txt.text_free_g (by rfl) (fun K hK => ?_); go_simp; refine hK _ ?_; clear hK K)
              refine Txt.text_chain_g (by rfl) (fun K hK => ?_)
              go_simp
              refine (dtaken_walk b R t n _ hRl hL.out.dr).mono ?_
              rintro e wz ⟨rfl, rfl⟩
              refine hK _ _ ⟨csw, ?_⟩
              clear hK K
              iterate 3 (refine Txt.text_free_g (by rfl) (fun K hK => ?_); go_simp; refine hK _ ?_; clear hK K)
              refine Txt.text_held_g (.int .i64 (t : Int)) (by rfl) (fun w0 h0 => by have := h0.1; go_simp) (fun K hK => hK _ ?_)
              iterate 1 (refine Txt.text_free_g (by rfl) (fun K hK => ?_); go_simp; refine hK _ ?_; clear hK K)
              iterate 2 (refine Txt.text_free rfl (fun K hK => ?_); go_simp; refine hK _ ?_; clear hK K)
              iterate 1 (refine Txt.text_free_g (by rfl) (fun K hK => ?_); go_simp; refine hK _ ?_; clear hK K)
              refine Txt.text_chain_g (by rfl) (fun K hK => ?_)
              go_simp
              refine (dnow_walk b R t n _ hRl hL.out.dr).mono ?_
              rintro e wz ⟨rfl, rfl⟩
              refine hK _ _ ⟨csw, ?_⟩
              clear hK K
              iterate 3 (refine Txt.text_free_g (by rfl) (fun K hK => ?_); go_simp; refine hK _ ?_; clear hK K)
              refine Txt.text_held_g (.int .i64 (n : Int)) (by rfl) (fun w0 h0 => by have := h0.2; go_simp) (fun K hK => hK _ ?_)
              iterate 1 (refine Txt.text_free_g (by rfl) (fun K hK => ?_); go_simp; refine hK _ ?_; clear hK K)
              iterate 1 (refine Txt.text_free rfl (fun K hK => ?_); go_simp; refine hK _ ?_; clear hK K)
              refine Txt.text_done ?_
              go_wp2_with fail
              go_roundg (gk - 1)
              case measure => omega
              case rel => exact ⟨i + 1, t, n, by omega, by go_num, by omega, by omega, by omega, hid ⟨hL.out.dr, hL.out.md, hL.out.k, hL.out.km⟩⟩
            · obtain ⟨k, rfl⟩ : ∃ k : Nat, nv = (k : Int) := ⟨nv.toNat, by omega⟩
              have h1 : n + k ≤ 1099511627776 := by omega
              go_wp2_with fail
              refine Txt.wp_region_text [true, true, true, false, false, true, true, true, false, true, true] (fun wx => wx.cell? ⟨o, 1, none⟩ = some (.int .i64 (k : Int))) (by kernel_rfl) (by kernel_rfl) cO ?_
              iterate 2 (refine Txt.text_free rfl (fun K hK => ?_); go_simp; refine hK _ ?_; clear hK K)
              refine Txt.text_held (.int .i64 (k : Int)) rfl (fun w0 h0 => by go_simp) (fun K hK => hK _ ?_)
              refine Txt.text_chain rfl (fun K hK => ?_)
              go_simp
              have Hd := hid (HS.out.read ((Keep.refl (fun _ => True) _).drew))
              refine (dtick_good b R t n k _ h1 hRl Hd.out.dr).mono ?_
              rintro e wa ⟨rfl, ka, ha⟩
              have H8 := hid (Hd.out.draw (ka.mono (fun j h => h.2)) ha)
              have cOa : wa.cell? ⟨o, 1, none⟩ = some (.int .i64 (k : Int)) := (ka.cell (x := ⟨o, 1, none⟩) (by show o ≠ b; omega)).trans cO
              have ho8 : o < wa.heap.size := Nat.lt_of_lt_of_le ho7 ka.size
              clear ka ha
              refine hK _ _ ⟨cOa, ?_⟩
              clear hK K
              refine Txt.text_chain rfl (fun K hK => ?_)
              go_simp
              refine (num_nil wa).mono ?_
              rintro e wz ⟨rfl, rfl⟩
              refine hK _ _ ⟨cOa, ?_⟩
              clear hK K
              iterate 2 (refine Txt.text_free rfl (fun K hK => ?_); go_simp; refine hK _ ?_; clear hK K)
              refine Txt.text_held (.int .i64 (k : Int)) rfl (fun w0 h0 => by go_simp) (fun K hK => hK _ ?_)
              refine Txt.text_chain rfl (fun K hK => ?_)
              go_simp
              refine (mtick_good m hb vr t n k wa h1 H8.out.md).mono ?_
              rintro e wb ⟨rfl, kb, hb'⟩
              have H9 := hid (H8.out.model (kb.mono (fun j h => h.2)) hb')
              have cOb : wb.cell? ⟨o, 1, none⟩ = some (.int .i64 (k : Int)) := (kb.cell (x := ⟨o, 1, none⟩) (by show o ≠ m; omega)).trans cOa
              clear kb hb'
              obtain ⟨n', hn'⟩ : ∃ n', n + k = n' := ⟨_, rfl⟩
              rw [hn'] at H9
              refine hK _ _ ⟨cOb, ?_⟩
              clear hK K
              iterate 2 (refine Txt.text_free rfl (fun K hK => ?_); go_simp; refine hK _ ?_; clear hK K)
              refine Txt.text_done ?_
              go_wp2_with fail
              have hL := hid (H9.out.read ((Keep.refl (fun _ => True) _).drew))
              have cs := hL.out.md.cells
              have csw := And.intro cs.2.2.1 cs.2.2.2.1
              clear cs
              refine Txt.wp_region_text [true, true, true, true, false, true, true, true, true, true, true, true, true, false, true, true, true, true, true, true] (fun wx => wx.cell? ⟨m, 2, none⟩ = some (.int .i64 (t : Int)) ∧ wx.cell? ⟨m, 3, none⟩ = some (.int .i64 (n' : Int))) (by kernel_rfl) (by kernel_rfl) csw ?_
              iterate 3 (refine Txt.text_free rfl (fun K hK => ?_); go_simp; refine hK _ ?_; clear hK K)
              iterate 1 (refine Txt.text_free_g (by rfl) (fun K hK => ?_); go_simp; refine hK _ ?_; clear hK K)
              refine Txt.text_chain_g (by rfl) (fun K hK => ?_)
              go_simp
              refine (dtaken_walk b R t n' _ hRl hL.out.dr).mono ?_
              rintro e wz ⟨rfl, rfl⟩
              refine hK _ _ ⟨csw, ?_⟩
              clear hK K
              iterate 3 (refine Txt.text_free_g (by rfl) (fun K hK => ?_); go_simp; refine hK _ ?_; clear hK K)
              refine Txt.text_held_g (.int .i64 (t : Int)) (by rfl) (fun w0 h0 => by have := h0.1; go_simp) (fun K hK => hK _ ?_)
              iterate 1 (refine Txt.text_free_g (by rfl) (fun K hK => ?_); go_simp; refine hK _ ?_; clear hK K)
              iterate 2 (refine Txt.text_free rfl (fun K hK => ?_); go_simp; refine hK _ ?_; clear hK K)
              iterate 1 (refine Txt.text_free_g (by rfl) (fun K hK => ?_); go_simp; refine hK _ ?_; clear hK K)
              refine Txt.text_chain_g (by rfl) (fun K hK => ?_)
              go_simp
              refine (dnow_walk b R t n' _ hRl hL.out.dr).mono ?_
              rintro e wz ⟨rfl, rfl⟩
              refine hK _ _ ⟨csw, ?_⟩
              clear hK K
              iterate 3 (refine Txt.text_free_g (by rfl) (fun K hK => ?_); go_simp; refine hK _ ?_; clear hK K)
              refine Txt.text_held_g (.int .i64 (n' : Int)) (by rfl) (fun w0 h0 => by have := h0.2; go_simp) (fun K hK => hK _ ?_)
              iterate 1 (refine Txt.text_free_g (by rfl) (fun K hK => ?_); go_simp; refine hK _ ?_; clear hK K)
              iterate 1 (refine Txt.text_free rfl (fun K hK => ?_); go_simp; refine hK _ ?_; clear hK K)
              refine Txt.text_done ?_
              go_wp2_with fail
              go_roundg (gk - 1)
              case measure => omega
              case rel => exact ⟨i + 1, t, n', by omega, by go_num, by omega, by omega, by omega, hid ⟨hL.out.dr, hL.out.md, hL.out.k, hL.out.km⟩⟩
          have kk3 : (kv == 3) = false := by simpa using z3
          go_wp2_with fail
          have hL := hid (HS.out.read ((Keep.refl (fun _ => True) _).drew))
          have cs := hL.out.md.cells
          have csw := And.intro cs.2.2.1 cs.2.2.2.1
          clear cs
          refine Txt.wp_region_text [true, true, true, true, false, true, true, true, true, true, true, true, true, false, true, true, true, true, true, true] (fun wx => wx.cell? ⟨m, 2, none⟩ = some (.int .i64 (t : Int)) ∧ wx.cell? ⟨m, 3, none⟩ = some (.int .i64 (n : Int))) (by kernel_rfl) (by kernel_rfl) csw ?_
          iterate 3 (refine Txt.text_free rfl (fun K hK => ?_); go_simp; refine hK _ ?_; clear hK K)
          iterate 1 (refine Txt.text_free_g (by rfl) (fun K hK => ?_); go_simp; refine hK _ ?_; clear hK K)
          refine Txt.text_chain_g (by rfl) (fun K hK => ?_)
          go_simp
          refine (dtaken_walk b R t n _ hRl hL.out.dr).mono ?_
          rintro e wz ⟨rfl, rfl⟩
          refine hK _ _ ⟨csw, ?_⟩
          clear hK K
          iterate 3 (refine Txt.text_free_g (by rfl) (fun K hK => ?_); go_simp; refine hK _ ?_; clear hK K)
          refine Txt.text_held_g (.int .i64 (t : Int)) (by rfl) (fun w0 h0 => by have := h0.1; go_simp) (fun K hK => hK _ ?_)
          iterate 1 (refine Txt.text_free_g (by rfl) (fun K hK => ?_); go_simp; refine hK _ ?_; clear hK K)
          iterate 2 (refine Txt.text_free rfl (fun K hK => ?_); go_simp; refine hK _ ?_; clear hK K)
          iterate 1 (refine Txt.text_free_g (by rfl) (fun K hK => ?_); go_simp; refine hK _ ?_; clear hK K)
          refine Txt.text_chain_g (by rfl) (fun K hK => ?_)
          go_simp
          refine (dnow_walk b R t n _ hRl hL.out.dr).mono ?_
          rintro e wz ⟨rfl, rfl⟩
          refine hK _ _ ⟨csw, ?_⟩
          clear hK K
          iterate 3 (refine Txt.text_free_g (by rfl) (fun K hK => ?_); go_simp; refine hK _ ?_; clear hK K)
          refine Txt.text_held_g (.int .i64 (n : Int)) (by rfl) (fun w0 h0 => by have := h0.2; go_simp) (fun K hK => hK _ ?_)
          iterate 1 (refine Txt.text_free_g (by rfl) (fun K hK => ?_); go_simp; refine hK _ ?_; clear hK K)
          iterate 1 (refine Txt.text_free rfl (fun K hK => ?_); go_simp; refine hK _ ?_; clear hK K)
          refine Txt.text_done ?_
          go_wp2_with fail
          go_roundg (gk - 1)
          case measure => omega
          case rel => exact ⟨i + 1, t, n, by omega, by go_num, by omega, by omega, by omega, hid ⟨hL.out.dr, hL.out.md, hL.out.k, hL.out.km⟩⟩
        · obtain rfl : i = L := by omega
          go_wp2_with fail
          go_ret
          exact ⟨rfl, HH.out.2.2.1⟩
end Go.Proofs.YtjknjjcdgniodaaDoor
