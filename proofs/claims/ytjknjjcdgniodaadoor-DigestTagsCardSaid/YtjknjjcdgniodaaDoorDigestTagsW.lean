/-
  Step by step: the statement 'DigestTags'.
-/
import Derived.Test.YtjknjjcdgniodaaDoorRefTag
import Derived.Test.YtjknjjcdgniodaaDoorIn3
namespace Go.Proofs.YtjknjjcdgniodaaDoor
open Go.RowKit Go.Proofs.Mem

/-- a string out of bytes that a slice holds. -/
theorem conv_str (w : World) {p : Nat → Prop} {a : Option Addr} {len cap : Nat} {xs : List Nat} (h : Cells w p (.slice a len cap) (ints .u8 xs)) :
    (convert 22 9 (.slice a len cap)).run Tryd.prog w = .ok (.string (bstr xs)) w := convert_bytes 22 5 9 Tryd.underlying22 Tryd.underlying5 Tryd.underlying9 w h

set_option maxRecDepth 100000 in
set_option maxHeartbeats 4000000 in
theorem digestTags_walk (u v : Value) (key : List Nat) (vs : List Value) (xss : List (List Nat)) (w : World) (p : Nat → Prop) (hk : ∀ x ∈ key, x < 256) (hT : TurnsAt w) (hu : Cells w p u (ints .u8 key)) (hv : IsRows w v vs xss) :
    Calls Tryd.prog 6 #[u, v] w fun e w' => e = .returned (.bool true) ∧ Keep (· < w.heap.size) w w' := by
  obtain ⟨hv1, hv2, hv3⟩ := hv
  have Hu := hid (hu.lt.mono (fun _ h => h.1))
  have Hv := hid (hv1.lt.mono (fun _ h => h.1))
  have HV3 := hid (And.intro hv2 hv3)
  have HT := hid hT
  have HKb := hid hk
  have hgt := hT.lt
  have l1 := hu.len_le
  have l2 := hv1.len_le
  rw [ints_length] at l1
  clear hu hv1 hv2 hv3 hT hk
  obtain ⟨a1, n1, c1, rfl, e1, m1, q1, _⟩ := Hu.out
  obtain ⟨a2, n2, c2, rfl, e2, m2, q2, hcc⟩ := Hv.out
  rw [ints_length] at e1
  subst e1 e2
  have q1' : c1 ≤ 9223372036854775807 := by simpa [maxLen] using q1
  have q2' : c2 ≤ 9223372036854775807 := by simpa [maxLen] using q2
  have HCC := hid hcc
  clear q1 q2 hcc
  go_enter Tryd.func6, Tryd.ntmps6
  go_wp2_with fail
  refine (alive3_walk w HT.out).mono ?_
  rintro e w1 ⟨rfl, k1⟩
  have H1 := hid k1
  have hz1 := k1.size
  clear k1
  by_cases g1 : 3000 < key.length
  · have g1' : decide ((3000 : Int) < (key.length : Int)) = true := by simp; omega
    go_wp2_with fail
    go_ret
    exact ⟨rfl, H1.out⟩
  have g1' : decide ((3000 : Int) < (key.length : Int)) = false := by simp; omega
  by_cases g2 : 20 < vs.length
  · have g2' : decide ((20 : Int) < (vs.length : Int)) = true := by simp; omega
    go_wp2_with fail
    go_ret
    exact ⟨rfl, H1.out⟩
  have g2' : decide ((20 : Int) < (vs.length : Int)) = false := by simp; omega
  go_wp2_with fail
  refine (refnew_walk w1).mono ?_
  rintro e w2 ⟨rfl, k2, hW2⟩
  have H2 := hid (And.intro (H1.out.trans (k2.mono (fun k h => by omega))) hW2)
  have hz2 : w1.heap.size < w2.heap.size := hW2.lt
  clear k2 hW2
  obtain ⟨hb, hhb⟩ : ∃ hb, w1.heap.size = hb := ⟨_, rfl⟩
  rw [hhb] at H2 hz2 hz1 ⊢
  clear hhb
  go_wp2_with fail
  refine (tagged_walk _ key w2 _ HKb.out (by omega) (HT.out.keep H2.out.1 HT.out.lt) (Hu.out.keep H2.out.1 (fun _ h => h))).mono ?_
  rintro e w3 ⟨kb, rfl, k3, h3⟩
  have hz3 := k3.size
  have H3 := hid (And.intro (H2.out.1.trans (k3.mono (fun k h => by omega))) (And.intro (H2.out.2.keep k3 (fun j _ h => h)) h3))
  clear k3 h3
  have hgood : Hid (∀ wx : World, Keep (· < w3.heap.size) w3 wx → KeyedAt wx w2.heap.size kb key) := by
    intro wx kx
    obtain ⟨bi, bo, b1, b2, b3, h1, h2, h3⟩ := H3.out.2.2
    exact ⟨bi, bo, b1, b2, b3, (kx.block _ (Array.getElem?_eq_some_iff.1 h1).1).trans h1, h2.keep kx h2.lt, h3.keep kx h3.lt⟩
  go_wp2_with fail
  go_loopg [27] vs.length (fun k s27 wr => ∃ i, i + k = vs.length ∧ s27 = .int .i64 (i : Int) ∧ Keep (· < w3.heap.size) w3 wr)
  case atStart => exact ⟨0, by omega, rfl, Keep.refl _ _⟩
  case round =>
    obtain ⟨i, hi, rfl, hk⟩ := hrel
    have HK := hid hk
    have hzr := hk.size
    have HKw : Hid (Keep (· < w.heap.size) w wr) := H3.out.1.trans (hk.mono (fun k h => by omega))
    clear hk
    by_cases hin : i < vs.length
    · obtain ⟨blk, off, rfl, hp, hc⟩ := HCC.out (by omega)
      obtain ⟨hxb, hxc⟩ := HV3.out.2 i hin
      obtain ⟨xs, hxs⟩ : ∃ xs, xss.getD i [] = xs := ⟨_, rfl⟩
      obtain ⟨va, hva⟩ : ∃ va, vs.getD i undef = va := ⟨_, rfl⟩
      rw [hxs, hva] at hxc
      rw [hxs] at hxb
      have cx : wr.cell? ⟨blk, off + i, none⟩ = some va := by
        rw [HKw.out.cell (x := ⟨blk, off + i, none⟩) hp, hc i hin, ← hva, List.getD_eq_getElem?_getD, List.getElem?_eq_getElem hin]
        rfl
      have hxc' := hxc.lt.mono (fun k h => (show k < w.heap.size from h.1))
      obtain ⟨xa, xn, xc, rfl, ex, mx, qx, _⟩ := hxc
      rw [ints_length] at ex
      subst ex
      have qx' : xc ≤ 9223372036854775807 := by simpa [maxLen] using qx
      have HXC := hid hxc'
      have HXB := hid hxb
      have l0 : (i : Int) < (vs.length : Int) := by omega
      clear hc hxs hva qx hxc' hxb
      by_cases h2000 : 2000 < xs.length
      · have t1 : decide ((2000 : Int) < (xs.length : Int)) = true := by simp; omega
        go_wp2_with fail
        go_ret
        exact ⟨rfl, HKw.out⟩
      · have t1 : decide ((2000 : Int) < (xs.length : Int)) = false := by simp; omega
        go_wp2_with fail
        refine (reftag_walk hb _ _ key xs wr _ _ (by omega) (by omega) HKb.out HXB.out (H3.out.2.1.keep HK.out (fun j _ h => h)) (Hu.out.keep HKw.out (fun _ h => h)) (HXC.out.keep HKw.out (fun _ h => h))).mono ?_
        rintro e w4 ⟨r4, rfl, k4, h4⟩
        obtain ⟨G, hG⟩ : ∃ G, Sha.tag key xs = G := ⟨_, rfl⟩
        have hGl : G.length = 32 := by rw [← hG]; exact tag_length HKb.out
        have hGb : ∀ x ∈ G, x < 256 := by rw [← hG]; exact tag_lt
        rw [hG] at h4
        have HG := hid hG
        have h4' := h4
        obtain ⟨ra, rn, rc, rfl, er, mr, qr, _⟩ := h4
        have cv := conv_str w4 h4'
        have H4 := hid (And.intro (HK.out.trans (k4.mono (fun k h => by omega))) (HKw.out.trans (k4.mono (fun k h => by omega))))
        have hz4 := k4.size
        clear k4 h4' hG er mr qr
        go_wp2_with fail
        clear cv
        refine (tag_walk _ _ key xs w4 _ _ HKb.out HXB.out (by omega) (by omega) (HT.out.keep H4.out.2 HT.out.lt) (Hu.out.keep H4.out.2 (fun _ h => h)) (HXC.out.keep H4.out.2 (fun _ h => h))).mono ?_
        rintro e w5 ⟨rfl, k5⟩
        rw [HG.out]
        have H5 := hid (And.intro (H4.out.1.trans (k5.mono (fun k h => by omega))) (H4.out.2.trans (k5.mono (fun k h => by omega))))
        have hz5 := k5.size
        clear k5
        go_wp2_with fail
        refine (ktag_walk kb _ key _ xs w5 _ HKb.out HXB.out (by omega) (HT.out.keep H5.out.2 HT.out.lt) (hgood.out w5 H5.out.1) (HXC.out.keep H5.out.2 (fun _ h => h))).mono ?_
        rintro e w6 ⟨rfl, k6⟩
        rw [HG.out]
        have H6 := hid (And.intro (H5.out.1.trans (k6.mono (fun k h => by omega))) (H5.out.2.trans (k6.mono (fun k h => by omega))))
        have hz6 := k6.size
        have hi32 := info32 G hGl
        have hold : (ints .u8 (List.replicate 32 0)).toArray.size = (ints .u8 G).toArray.size := by simp [ints_length, hGl]
        clear k6
        obtain ⟨Zo, hZo⟩ : ∃ Z, Obj.cells (ints .u8 (List.replicate 32 0)).toArray 24 (0, 0) = Z := ⟨_, rfl⟩
        have hs1 : ((w6.alloc (Obj.cells (ints .u8 (List.replicate 32 0)).toArray 24 (0, 0))).alloc (Obj.cells (ints .u8 (List.replicate 32 0)).toArray 24 (0, 0))).heap[w6.heap.size]? = some (Obj.cells (ints .u8 (List.replicate 32 0)).toArray 24 (0, 0)) := (Below.heap_alloc _ _ _ (by simp)).trans (heap_alloc_new w6 _)
        have hs2 : (((w6.alloc (Obj.cells (ints .u8 (List.replicate 32 0)).toArray 24 (0, 0))).alloc (Obj.cells (ints .u8 (List.replicate 32 0)).toArray 24 (0, 0))).setRow w6.heap.size (ints .u8 G).toArray).heap[w6.heap.size + 1]? = some (Obj.cells (ints .u8 (List.replicate 32 0)).toArray 24 (0, 0)) := by
          rw [setRow_other _ _ _ _ (by omega)]
          have := heap_alloc_new (w6.alloc (Obj.cells (ints .u8 (List.replicate 32 0)).toArray 24 (0, 0))) (Obj.cells (ints .u8 (List.replicate 32 0)).toArray 24 (0, 0))
          rwa [World.size_alloc] at this
        have HS := hid (And.intro hs1 hs2)
        clear hs1 hs2 hZo Zo
        go_upto_region 14 with (first
          | (refine wpList_store_row rfl 24 (.tmp 10) (.tmp 41) rfl w6.heap.size (ints .u8 G).toArray rfl rfl 24 _ HS.out.1 hi32 hold (ints_all _ _) ?_)
          | (refine wpList_store_row rfl 24 (.tmp 11) (.tmp 44) rfl (w6.heap.size + 1) (ints .u8 G).toArray rfl rfl 24 _ HS.out.2 hi32 hold (ints_all _ _) ?_))
        refine wp_world (fun w7 => Keep (· < w6.heap.size) w6 w7 ∧ w7.heap[w6.heap.size]? = some (.cells (ints .u8 G).toArray 24 (0, 0)) ∧ w7.heap[w6.heap.size + 1]? = some (.cells (ints .u8 G).toArray 24 (0, 0))) ⟨((((Keep.refl _ _).alloc _ (fun _ h => h)).alloc _ (fun k h => by simp; omega)).setRow _ (by simp)).setRow _ (by simp), ?_, heap_setRow HS.out.2 _⟩ ?_
        · exact (setRow_other _ _ _ _ (by omega)).trans (heap_setRow HS.out.1 _)
        rintro w7 ⟨k7, h7, h7'⟩
        obtain ⟨d, hd⟩ : ∃ d, w6.heap.size = d := ⟨_, rfl⟩
        rw [hd] at k7 h7 h7' ⊢
        have hc1 : Cells w7 (fun _ => True) (.slice (some ⟨d, 0, none⟩) 32 32) (ints .u8 G) := by
          have := Cells.of_block (w := w7) (p := fun _ => True) (cur := ints .u8 G) (off := 0) (n := 32) (cap := 32) h7 trivial (by rw [ints_length, hGl]; decide) (Nat.le_refl _) (by decide)
          rwa [List.drop_zero, List.take_of_length_le (by rw [ints_length, hGl]; exact Nat.le_refl _)] at this
        have hc2 : Cells w7 (fun _ => True) (.slice (some ⟨d + 1, 0, none⟩) 32 32) (ints .u8 G) := by
          have := Cells.of_block (w := w7) (p := fun _ => True) (cur := ints .u8 G) (off := 0) (n := 32) (cap := 32) h7' trivial (by rw [ints_length, hGl]; decide) (Nat.le_refl _) (by decide)
          rwa [List.drop_zero, List.take_of_length_le (by rw [ints_length, hGl]; exact Nat.le_refl _)] at this
        have cv1 := conv_str w7 hc1
        have cv2 := conv_str w7 hc2
        have H7 := hid (H6.out.1.trans (k7.mono (fun k h => by omega)))
        clear k7 h7 h7' hc1 hc2 HS hold hi32 hd
        simp only [Act.put]
        go_wp2_with fail
        go_roundg (gk - 1)
        case measure => omega
        case rel => exact ⟨i + 1, by omega, by go_num, H7.out⟩
    · obtain rfl : i = vs.length := by omega
      go_wp2_with fail
      go_ret
      exact ⟨rfl, HKw.out⟩
end Go.Proofs.YtjknjjcdgniodaaDoor
