/-
  Step by step: the statement 'DigestOf'.
-/
import Derived.Test.YtjknjjcdgniodaaDoorRefOf
import Derived.Test.YtjknjjcdgniodaaDoorAlive
import Derived.Test.YtjknjjcdgniodaaDoorBytesK
import Derived.Test.YtjknjjcdgniodaaDoorEqual
import Derived.Test.YtjknjjcdgniodaaDoorTxt2
namespace Go.Proofs.YtjknjjcdgniodaaDoor
open Go.RowKit Go.Proofs.Mem

theorem conv_bytes (w : World) {p : Nat → Prop} {a : Option Addr} {len cap : Nat} {xs : List Nat} (h : Cells w p (.slice a len cap) (ints .u8 xs)) :
    (convert 22 9 (.slice a len cap)).run Tryd.prog w = .ok (.string (bstr xs)) w := convert_bytes 22 5 9 Tryd.underlying22 Tryd.underlying5 Tryd.underlying9 w h
theorem bstr_beq {a b : List Nat} (ha : ∀ x ∈ a, x < 256) (hb : ∀ x ∈ b, x < 256) : ((bstr a).toList == (bstr b).toList) = decide (a = b) := by
  have e : ∀ a, (bstr a).toList = a.map UInt8.ofNat := fun a => by rw [ByteArray.toList_eq]; simp [bstr]
  rw [e, e, map_beq ha hb]
  by_cases h : a = b <;> simp [h]

set_option maxRecDepth 100000 in
set_option maxHeartbeats 4000000 in
theorem digestOf_walk (u v : Value) (xs ys : List Nat) (w : World) (p p' : Nat → Prop) (hx : ∀ x ∈ xs, x < 256) (hy : ∀ x ∈ ys, x < 256) (hT : TurnsAt w) (hu : Cells w p u (ints .u8 xs)) (hv : Cells w p' v (ints .u8 ys)) :
    Calls Tryd.prog 8 #[u, v] w fun e w' => e = .returned (.bool true) ∧ Keep (· < w.heap.size) w w' := by
  have Hu := hid (hu.lt.mono (fun _ h => h.1))
  have Hv := hid (hv.lt.mono (fun _ h => h.1))
  have HT := hid hT
  have HXB := hid (And.intro hx hy)
  have l1 := hu.len_le
  have l2 := hv.len_le
  rw [ints_length] at l1 l2
  have hgt := hT.lt
  clear hu hv hT hx hy
  obtain ⟨a1, n1, c1, rfl, e1, m1, q1, _⟩ := Hu.out
  obtain ⟨a2, n2, c2, rfl, e2, m2, q2, _⟩ := Hv.out
  rw [ints_length] at e1 e2
  subst e1 e2
  have q1' : c1 ≤ 9223372036854775807 := by simpa [maxLen] using q1
  have q2' : c2 ≤ 9223372036854775807 := by simpa [maxLen] using q2
  clear q1 q2
  go_enter Tryd.func8, Tryd.ntmps8
  go_wp2_with fail
  refine (alive3_walk w HT.out).mono ?_
  rintro e w1 ⟨rfl, k1⟩
  have H1 := hid k1
  have hz1 := k1.size
  clear k1
  by_cases g1 : 9000 < xs.length
  · have g1' : decide ((9000 : Int) < (xs.length : Int)) = true := by simp; omega
    go_wp2_with fail
    go_ret
    exact ⟨rfl, H1.out⟩
  have g1' : decide ((9000 : Int) < (xs.length : Int)) = false := by simp; omega
  by_cases g2 : 9000 < ys.length
  · have g2' : decide ((9000 : Int) < (ys.length : Int)) = true := by simp; omega
    go_wp2_with fail
    go_ret
    exact ⟨rfl, H1.out⟩
  have g2' : decide ((9000 : Int) < (ys.length : Int)) = false := by simp; omega
  go_wp2_with fail
  refine (bytes_walk _ xs w1 _ (by omega) (Hu.out.keep H1.out (fun _ h => h))).mono ?_
  rintro e w2 ⟨vi, rfl, k2, hm2⟩
  have hz2 := k2.size
  have H2 := hid (And.intro (H1.out.trans (k2.mono (fun k h => Nat.lt_of_lt_of_le h hz1))) hm2)
  clear k2 hm2
  go_wp2_with fail
  refine (of_walk _ xs w2 _ HXB.out.1 (by omega) (HT.out.keep H2.out.1 HT.out.lt) H2.out.2.cells).mono ?_
  rintro e w3 ⟨rfl, k3⟩
  obtain ⟨F, hF⟩ : ∃ F, Sha.of xs = F := ⟨_, rfl⟩
  have hFl : F.length = 32 := by rw [← hF]; exact of_length HXB.out.1
  have hFb : ∀ x ∈ F, x < 256 := by rw [← hF]; exact of_lt
  have hi32 := info32 F hFl
  have hold : (ints .u8 (List.replicate 32 0)).toArray.size = (ints .u8 F).toArray.size := by simp [ints_length, hFl]
  have hz3 := k3.size
  have H3 := hid (And.intro (H2.out.1.trans (k3.mono (fun k h => by omega))) (H2.out.2.keep k3 (fun j _ h => h)))
  rw [hF]
  have HF := hid (And.intro hF hFb)
  clear k3 hF hFb
  go_upto_region 7 with (refine wpList_store_row rfl 24 (.tmp 6) (.tmp 20) rfl w3.heap.size (ints .u8 F).toArray rfl rfl 24 _ (heap_alloc_new w3 _) hi32 hold (ints_all _ _) ?_)
  refine wp_world (fun w4 => Keep (· < w3.heap.size) w3 w4 ∧ w4.heap[w3.heap.size]? = some (.cells (ints .u8 F).toArray 24 (0, 0))) ⟨((Keep.refl _ _).alloc _ (fun _ h => h)).setRow _ (by simp), heap_setRow (heap_alloc_new w3 _) _⟩ ?_
  rintro w4 ⟨k4, h4⟩
  obtain ⟨d, hd⟩ : ∃ d, w3.heap.size = d := ⟨_, rfl⟩
  rw [hd] at k4 h4 hz3 ⊢
  have hz4 : d < w4.heap.size := (Array.getElem?_eq_some_iff.1 h4).1
  have hcF : Cells w4 (fun k => k < w4.heap.size) (.slice (some ⟨d, 0, none⟩) 32 32) (ints .u8 F) := by
    have := Cells.of_block (w := w4) (p := fun k => k < w4.heap.size) (cur := ints .u8 F) (off := 0) (n := 32) (cap := 32) h4 hz4 (by rw [ints_length, hFl]; decide) (Nat.le_refl _) (by decide)
    rwa [List.drop_zero, List.take_of_length_le (by rw [ints_length, hFl]; exact Nat.le_refl _)] at this
  have H4 := hid (And.intro (H3.out.1.trans (k4.mono (fun k h => by omega))) (And.intro (H3.out.2.keep k4 (fun j _ h => by omega)) hcF))
  clear k4 h4 hcF hold hi32 hd H3 H2
  have hw4 : w.heap.size ≤ w4.heap.size := by omega
  have cF : Hid (∀ wx : World, Keep (· < w4.heap.size) w4 wx → (convert 22 9 (.slice (some ⟨d, 0, none⟩) 32 32)).run Tryd.prog wx = .ok (.string (bstr F)) wx) := fun wx kx => conv_bytes wx (H4.out.2.2.keep kx (fun _ h => h))
  have cX : Hid (∀ wx : World, Keep (· < w4.heap.size) w4 wx → (convert 22 9 (.slice a1 xs.length c1)).run Tryd.prog wx = .ok (.string (bstr xs)) wx) := fun wx kx => conv_bytes wx (Hu.out.keep (H4.out.1.trans (kx.mono (fun k h => Nat.lt_of_lt_of_le h hw4))) (fun _ h => h))
  have cY : Hid (∀ wx : World, Keep (· < w4.heap.size) w4 wx → (convert 22 9 (.slice a2 ys.length c2)).run Tryd.prog wx = .ok (.string (bstr ys)) wx) := fun wx kx => conv_bytes wx (Hv.out.keep (H4.out.1.trans (kx.mono (fun k h => Nat.lt_of_lt_of_le h hw4))) (fun _ h => h))
  obtain ⟨q, hq⟩ : ∃ q, decide (xs = ys) = q := ⟨_, rfl⟩
  have eB : ((bstr xs).toList == (bstr ys).toList) = q := by rw [← hq]; exact bstr_beq HXB.out.1 HXB.out.2
  have HQ := hid hq
  clear hq
  refine Txt.wp_region_text [true, true, false, true, false, false, true, true, true, true, false, true, true, true, true, false, true, true, true, true, true, true, true, true, true, false, true, false, false, true, true] (fun wx => Keep (· < w4.heap.size) w4 wx) (by kernel_rfl) (by kernel_rfl) ((Keep.refl _ _).drew) ?_
  refine Txt.text_free rfl (fun K hK => ?_); go_simp; refine hK _ ?_; clear hK K
  refine Txt.text_held (.string (bstr F)) rfl (fun w0 h0 => by have := cF.out w0 h0; go_simp) (fun K hK => hK _ ?_)
  -- New
  refine Txt.text_chain rfl (fun K hK => ?_)
  go_simp
  refine (refnew_walk w4.drew).mono ?_
  rintro e w5 ⟨rfl, k5, h5⟩
  obtain ⟨r, hr⟩ : ∃ r, w4.drew.heap.size = r := ⟨_, rfl⟩
  rw [hr] at h5 k5 ⊢
  have hr' : w4.heap.size = r := hr
  have H5 := hid (And.intro (show Keep (· < w4.heap.size) w4 w5 from (Keep.refl _ w4).drew.trans (k5.mono (fun k h => by rw [← hr']; exact h))) h5)
  clear k5 h5 hr
  refine hK _ _ ⟨H5.out.1, ?_⟩
  clear hK K
  refine Txt.text_free rfl (fun K hK => ?_); go_simp; refine hK _ ?_; clear hK K
  -- Of
  refine Txt.text_chain rfl (fun K hK => ?_)
  go_simp
  have HW5 := hid (H4.out.1.trans (H5.out.1.mono (fun k h => Nat.lt_of_lt_of_le h hw4)))
  refine (refof_walk r _ xs w5 _ (by omega) HXB.out.1 H5.out.2 (Hu.out.keep HW5.out (fun _ h => h))).mono ?_
  rintro e w6 ⟨vr, rfl, k6, h6⟩
  rw [HF.out.1] at h6
  have hz5 := H5.out.1.size
  have H6 := hid (And.intro (H5.out.1.trans (k6.mono (fun k h => Nat.lt_of_lt_of_le h hz5))) h6)
  clear k6 h6
  refine hK _ _ ⟨H6.out.1, ?_⟩
  clear hK K
  obtain ⟨ar, nr, cr, rfl, er, _, _, _⟩ := H6.out.2
  rw [ints_length] at er
  subst er
  refine Txt.text_chain rfl (fun K hK => ?_)
  have cR := conv_bytes w6 H6.out.2
  rw [hFl] at cR
  go_simp
  refine hK _ _ ⟨H6.out.1, ?_⟩
  clear hK K cR
  have eF : ((bstr F).toList == (bstr F).toList) = true := by simp
  iterate 2 (refine Txt.text_free rfl (fun K hK => ?_); go_simp; refine hK _ ?_; clear hK K)
  iterate 2 (refine Txt.text_free_g (by rfl) (fun K hK => ?_); go_simp; refine hK _ ?_; clear hK K)
  -- Kept
  refine Txt.text_chain_g (by rfl) (fun K hK => ?_)
  go_simp
  refine (kept_walk _ _ _ xs w6 _ (by omega) (H4.out.2.1.keep H6.out.1 (fun j _ h => h)) (Hu.out.keep (H4.out.1.trans (H6.out.1.mono (fun k h => Nat.lt_of_lt_of_le h hw4))) (fun _ h => h))).mono ?_
  rintro e w7 ⟨rfl, k7⟩
  have H7 := hid (H6.out.1.trans (k7.mono (fun _ _ => trivial)))
  clear k7 H6 H5 HW5
  refine hK _ _ ⟨H7.out, ?_⟩
  clear hK K
  iterate 2 (refine Txt.text_free rfl (fun K hK => ?_); go_simp; refine hK _ ?_; clear hK K)
  iterate 2 (refine Txt.text_free_g (by rfl) (fun K hK => ?_); go_simp; refine hK _ ?_; clear hK K)
  -- Equal
  refine Txt.text_chain_g (by rfl) (fun K hK => ?_)
  go_simp
  have K7 := hid (H4.out.1.trans (H7.out.mono (fun k h => Nat.lt_of_lt_of_le h hw4)))
  refine (equal_walk _ _ xs ys w7 _ _ HXB.out.1 HXB.out.2 (Hu.out.keep K7.out (fun _ h => h)) (Hv.out.keep K7.out (fun _ h => h))).mono ?_
  rintro e w8 ⟨rfl, k8⟩
  rw [HQ.out]
  have H8 := hid (H7.out.trans (k8.mono (fun _ _ => trivial)))
  clear k8 H7 K7
  refine hK _ _ ⟨H8.out, ?_⟩
  clear hK K
  refine Txt.text_free_g (by rfl) (fun K hK => ?_); go_simp; refine hK _ ?_; clear hK K
  refine Txt.text_held_g (.string (bstr xs)) (by rfl) (fun w0 h0 => by have := cX.out w0 h0; go_simp) (fun K hK => hK _ ?_)
  refine Txt.text_free_g (by rfl) (fun K hK => ?_); go_simp; refine hK _ ?_; clear hK K
  refine Txt.text_held_g (.string (bstr ys)) (by rfl) (fun w0 h0 => by have := cY.out w0 h0; go_simp) (fun K hK => hK _ ?_)
  have eqq : (q == q) = true := by cases q <;> rfl
  iterate 2 (refine Txt.text_free_g (by rfl) (fun K hK => ?_); go_simp; refine hK _ ?_; clear hK K)
  iterate 2 (refine Txt.text_free rfl (fun K hK => ?_); go_simp; refine hK _ ?_; clear hK K)
  refine Txt.text_free_g (by rfl) (fun K hK => ?_); go_simp; refine hK _ ?_; clear hK K
  refine Txt.text_chain_g (by rfl) (fun K hK => ?_)
  go_simp
  have zA : (0 : Nat) = 0 := rfl
  have hw8 := H8.out.size
  refine hK _ _ ⟨H8.out.trans ((Keep.refl _ _).alloc _ (fun k h => Nat.lt_of_lt_of_le h hw8)), ?_⟩
  clear hK K zA
  refine Txt.text_free_g (by rfl) (fun K hK => ?_); go_simp; refine hK _ ?_; clear hK K
  have K8 := hid (H4.out.1.trans (H8.out.mono (fun k h => Nat.lt_of_lt_of_le h hw4)))
  obtain ⟨i0, hi0, hz0, hs0, hb0⟩ := info_parts (show (Tryd.prog.info? 5).map (fun i => (i.zero, i.size, i.bytes)) = some (some (.int .u8 0), 1, 1) by kernel_rfl)
  refine Txt.text_app_g (by rfl) (.tmp 46) (.tmp 47) 22 22 rfl _ (append_first (P := Tryd.prog) 22 5 i0 (.int .u8 0) 1 Tryd.underlying22 hi0 hz0 hs0 hb0 rfl w8 22 _ (ints .u8 ys) (Hv.out.keep K8.out (fun _ h => h)) (ints_one _ _) (by rw [ints_length]; omega)) ?_
  rintro v1 w9 ⟨hown, k9, hz9⟩
  have hc9 := (owns_cells hown).mono (q := fun _ => True) (fun _ _ => trivial)
  have H9 := hid (H8.out.trans (k9.mono (fun k h => Nat.lt_of_lt_of_le h hw8)))
  clear hown k9
  refine ⟨H9.out, ?_⟩
  refine Txt.text_chain_g (by rfl) (fun K hK => ?_)
  go_simp
  have K9 := hid (H4.out.1.trans (H9.out.mono (fun k h => Nat.lt_of_lt_of_le h hw4)))
  refine (equal_walk _ _ ys ys w9 _ _ HXB.out.2 HXB.out.2 (Hv.out.keep K9.out (fun _ h => h)) hc9).mono ?_
  rintro e w10 ⟨rfl, k10⟩
  rw [decide_eq_true rfl]
  have H10 := hid (H9.out.trans (k10.mono (fun _ _ => trivial)))
  clear k10 hc9
  refine hK _ _ ⟨H10.out, ?_⟩
  clear hK K
  iterate 2 (refine Txt.text_free rfl (fun K hK => ?_); go_simp; refine hK _ ?_; clear hK K)
  refine Txt.text_done ?_
  go_wp2_with fail
  go_ret
  exact ⟨rfl, H4.out.1.trans (H10.out.mono (fun k h => Nat.lt_of_lt_of_le h hw4))⟩
end Go.Proofs.YtjknjjcdgniodaaDoor
