/-
  Step by step: 'Tag' of package digest, of a key that is kept and of a key.
-/
import Derived.Test.YtnpneippahdigaaDoorTag
import Derived.Test.YtnpneippahdigaaDoorTxt
namespace Go.Proofs.YtnpneippahdigaaDoor
open Go.RowKit Go.Proofs.Mem

theorem inner_good {key : List Nat} (h : ∀ x ∈ key, x < 256) : Good (Sha.inner key) := take_good new_good (fun y hy => by
  obtain ⟨z, hz, rfl⟩ := List.mem_map.1 hy
  exact Nat.xor_lt_two_pow (n := 8) (pad_lt key h z hz) (by decide))
theorem outer_good {key : List Nat} (h : ∀ x ∈ key, x < 256) : Good (Sha.outer key) := take_good new_good (fun y hy => by
  obtain ⟨z, hz, rfl⟩ := List.mem_map.1 hy
  exact Nat.xor_lt_two_pow (n := 8) (pad_lt key h z hz) (by decide))
theorem inner_n {key : List Nat} (h : ∀ x ∈ key, x < 256) : (Sha.inner key).n = 64 := by
  unfold Sha.inner; rw [Sha.take_n, List.length_map, pad_length key h]; rfl
theorem outer_n {key : List Nat} (h : ∀ x ∈ key, x < 256) : (Sha.outer key).n = 64 := by
  unfold Sha.outer; rw [Sha.take_n, List.length_map, pad_length key h]; rfl
theorem tag_length {key xs : List Nat} (h : ∀ x ∈ key, x < 256) : (Sha.tag key xs).length = 32 := sum_length (take_good (outer_good h) sum_lt)
theorem tag_lt {key xs : List Nat} : ∀ x ∈ Sha.tag key xs, x < 256 := sum_lt

/-- a state's digest after bytes: 'x.Copy().Take(v).Sum()', call by call. -/
theorem KeyedAt.cells {w : World} {B kb : Nat} {key : List Nat} (h : KeyedAt w B kb key) : ∃ bi bo, w.cell? ⟨kb, 0, none⟩ = some (.pointer (some ⟨bi, 0, none⟩)) ∧ w.cell? ⟨kb, 1, none⟩ = some (.pointer (some ⟨bo, 0, none⟩)) ∧ StAt w bi (Sha.inner key) ∧ StAt w bo (Sha.outer key) ∧ kb < w.heap.size ∧ bi < w.heap.size ∧ bo < w.heap.size := by
  obtain ⟨bi, bo, _, _, _, h, hi, ho⟩ := h
  exact ⟨bi, bo, by simp [World.cell?, h], by simp [World.cell?, h], hi, ho, (Array.getElem?_eq_some_iff.1 h).1, hi.lt, ho.lt⟩

set_option maxRecDepth 100000 in
set_option maxHeartbeats 1000000 in
theorem ktag_walk (kb B : Nat) (key : List Nat) (v : Value) (xs : List Nat) (w : World) (p : Nat → Prop) (hk : ∀ x ∈ key, x < 256) (hx : ∀ x ∈ xs, x < 256) (hn : xs.length < 288230376151711744) (hT : TurnsAt w) (hkb : KeyedAt w B kb key) (hv : Cells w p v (ints .u8 xs)) :
    Calls Tryd.prog 88 #[.pointer (some ⟨kb, 0, none⟩), v] w fun e w' => e = .returned (.agg (ints .u8 (Sha.tag key xs)).toArray) ∧ Keep (· < w.heap.size) w w' := by
  have Hv := hid (hv.lt.mono (fun _ h => h.1))
  have HT := hid hT
  obtain ⟨bi, bo, c0, c1, hsi, hso, zk, zi, zo⟩ := hkb.cells
  have HS := hid (And.intro hsi hso)
  clear hv hT hkb hsi hso
  go_enter Tryd.func88, Tryd.ntmps88
  go_upto_region 1 with fail
  refine wp_world (fun w0 => w0.heap.size = w.heap.size + 1 ∧ Keep (· < w.heap.size) w w0 ∧ w0.heap[w.heap.size]? = some (.cells (ints .u8 (List.replicate 32 0)).toArray 47 (0, 0))) ⟨by simp, (Keep.refl _ _).alloc _ (fun _ h => h), heap_alloc_new w _⟩ ?_
  rintro w0 ⟨z0, k0, R0⟩
  have d0 : w0.cell? ⟨kb, 0, none⟩ = some (.pointer (some ⟨bi, 0, none⟩)) := (k0.cell (x := ⟨kb, 0, none⟩) zk).trans c0
  have H0 := hid (And.intro z0 (And.intro k0 R0))
  clear z0 k0 R0
  go_wp2_with fail
  refine (copy_walk bi _ w0 (inner_good hk) (HS.out.1.keep H0.out.2.1 zi)).mono ?_
  rintro e w1 ⟨rfl, k1, z1, h1⟩
  obtain ⟨z0, k0, R0⟩ := H0.out
  have H1 := hid (And.intro (k0.trans (k1.mono (fun k h => by omega))) (And.intro ((k1.block _ (by omega)).trans R0) (And.intro h1 z1)))
  clear k1 z1 h1 z0 k0 R0 d0
  obtain ⟨q, hq⟩ : ∃ q, w0.heap.size = q := ⟨_, rfl⟩
  have hqz : q = w.heap.size + 1 := by rw [← hq]; exact H0.out.1
  rw [hq] at H1 ⊢
  have HQ := hid hqz
  clear hq hqz H0 w0
  go_wp2_with fail
  refine (take_walk q _ v xs w1 (inner_good hk) (by rw [inner_n hk]; omega) hx (HT.out.keep H1.out.1 HT.out.lt) H1.out.2.2.1 ((Hv.out.keep H1.out.1 (fun _ h => h)).mono (fun k h => by have := HQ.out; omega))).mono ?_
  rintro e w2 ⟨rfl, k2, h2⟩
  have hq := HQ.out
  have hz1 := H1.out.2.2.2
  have H2 := hid (And.intro (H1.out.1.trans (k2.mono (fun k h => by omega))) (And.intro ((k2.block _ (by omega)).trans H1.out.2.1) h2))
  have hz2 : q < w2.heap.size := by have := k2.size; omega
  clear k2 h2 H1 hz1 hq w1
  go_wp2_with fail
  refine (sum_walk q _ w2 (take_good (inner_good hk) hx) (by rw [Sha.take_n, inner_n hk]; omega) (HT.out.keep H2.out.1 HT.out.lt) H2.out.2.2).mono ?_
  rintro e w3 ⟨rfl, k3⟩
  obtain ⟨D, hD⟩ : ∃ D, ((Sha.inner key).take xs).sum = D := ⟨_, rfl⟩
  have hDl : D.length = 32 := by rw [← hD]; exact sum_length (take_good (inner_good hk) hx)
  have hDb : ∀ x ∈ D, x < 256 := by rw [← hD]; exact sum_lt
  have hq := HQ.out
  have H3 := hid (And.intro (H2.out.1.trans (k3.mono (fun k h => by omega))) (And.intro ((k3.block _ (by omega)).trans H2.out.2.1) hD))
  have hz3 : w.heap.size < w3.heap.size := by have := k3.size; omega
  rw [hD]
  have hi32 := info32 D hDl
  have hold : (ints .u8 (List.replicate 32 0)).toArray.size = (ints .u8 D).toArray.size := by simp [ints_length, hDl]
  clear k3 H2 hD hz2 hq w2
  go_upto_region 2 with (refine wpList_store_row rfl 47 (.tmp 5) (.tmp 13) rfl w3.heap.size (ints .u8 D).toArray rfl rfl 47 _ (heap_alloc_new w3 _) hi32 hold (ints_all _ _) ?_)
  refine wp_world (fun w4 => Keep (· < w3.heap.size) w3 w4 ∧ w4.heap[w3.heap.size]? = some (.cells (ints .u8 D).toArray 47 (0, 0))) ⟨((Keep.refl _ _).alloc _ (fun _ h => h)).setRow _ (by simp), heap_setRow (heap_alloc_new w3 _) _⟩ ?_
  rintro w4 ⟨k4, h4⟩
  have hz4 := k4.size
  have h4lt : w3.heap.size < w4.heap.size := (Array.getElem?_eq_some_iff.1 h4).1
  have H4 := hid (And.intro (H3.out.1.trans (k4.mono (fun k h => by omega))) (And.intro ((k4.block _ hz3).trans H3.out.2.1) (And.intro h4 H3.out.2.2)))
  have d1 : w4.drew.cell? ⟨kb, 1, none⟩ = some (.pointer (some ⟨bo, 0, none⟩)) := (H4.out.1.cell (x := ⟨kb, 1, none⟩) zk).trans c1
  obtain ⟨dd, hdd⟩ : ∃ dd, w3.heap.size = dd := ⟨_, rfl⟩
  rw [hdd] at H4 hz4 h4lt hz3 ⊢
  clear k4 h4 hold hi32 H3 hdd w3
  refine Txt.wp_region_text [true, true, true, false, false, true, false, false, false] (fun _ => True) (by kernel_rfl) (by kernel_rfl) trivial ?_
  iterate 3 (refine Txt.text_free rfl (fun K hK => ?_); go_simp; refine hK _ ?_; clear hK K)
  refine Txt.text_chain rfl (fun K hK => ?_)
  go_simp
  refine hK _ _ ⟨trivial, ?_⟩
  clear hK K
  refine Txt.text_chain rfl (fun K hK => ?_)
  go_simp
  refine (copy_walk bo _ w4.drew (outer_good hk) (HS.out.2.keep (H4.out.1.drewN 1) zo)).mono ?_
  rintro e w5 ⟨rfl, k5, z5, h5⟩
  obtain ⟨k04, R4, D4, hD⟩ := H4.out
  have H5 := hid (And.intro ((k04.drewN 1).trans (k5.mono (fun k h => Nat.lt_of_lt_of_le h k04.size))) (And.intro ((k5.block w.heap.size (by show _ < w4.heap.size; omega)).trans R4) (And.intro ((k5.block dd h4lt).trans D4) (And.intro h5 z5))))
  obtain ⟨r, hr⟩ : ∃ r, w4.drew.heap.size = r := ⟨_, rfl⟩
  have hrz : w.heap.size < dd ∧ dd < r := ⟨hz3, by rw [← hr]; exact h4lt⟩
  rw [hr] at H5 ⊢
  have HD := hid hD
  clear k5 z5 h5 k04 R4 D4 hD H4 hr d1 hz4 h4lt
  refine hK _ _ ⟨trivial, ?_⟩
  clear hK K
  refine Txt.text_free rfl (fun K hK => ?_)
  go_simp
  refine hK _ ?_
  clear hK K
  refine Txt.text_chain rfl (fun K hK => ?_)
  go_simp
  have hcD : Cells w5 (· ≠ r) (.slice (some ⟨dd, 0, none⟩) 32 32) (ints .u8 D) := by
    have := Cells.of_block (w := w5) (p := (· ≠ r)) (cur := ints .u8 D) (off := 0) (n := 32) (cap := 32) H5.out.2.2.1 (by omega) (by rw [ints_length, hDl]; decide) (Nat.le_refl _) (by decide)
    rwa [List.drop_zero, List.take_of_length_le (by rw [ints_length, hDl]; exact Nat.le_refl _)] at this
  refine (take_walk r _ _ D w5 (outer_good hk) (by rw [outer_n hk, hDl]; decide) hDb (HT.out.keep H5.out.1 HT.out.lt) H5.out.2.2.2.1 hcD).mono ?_
  rintro e w6 ⟨rfl, k6, h6⟩
  have hz5 := H5.out.2.2.2.2
  have H6 := hid (And.intro (H5.out.1.trans (k6.mono (fun k h => by omega))) (And.intro ((k6.block w.heap.size (by omega)).trans H5.out.2.1) h6))
  have hz6 : r < w6.heap.size := by have := k6.size; omega
  clear k6 h6 hz5 hcD H5
  refine hK _ _ ⟨trivial, ?_⟩
  clear hK K
  refine Txt.text_chain rfl (fun K hK => ?_)
  go_simp
  refine (sum_walk r _ w6 (take_good (outer_good hk) hDb) (by rw [Sha.take_n, outer_n hk, hDl]; decide) (HT.out.keep H6.out.1 HT.out.lt) H6.out.2.2).mono ?_
  rintro e w7 ⟨rfl, k7⟩
  obtain ⟨F, hF⟩ : ∃ F, ((Sha.outer key).take D).sum = F := ⟨_, rfl⟩
  have hFl : F.length = 32 := by rw [← hF]; exact sum_length (take_good (outer_good hk) hDb)
  have H7 := hid (And.intro (H6.out.1.trans (k7.mono (fun k h => by omega))) (And.intro ((k7.block w.heap.size (by omega)).trans H6.out.2.1) hF))
  rw [hF]
  have hi32 := info32 F hFl
  have hold : (ints .u8 (List.replicate 32 0)).toArray.size = (ints .u8 F).toArray.size := by simp [ints_length, hFl]
  clear k7 H6 hF hz6
  refine hK _ _ ⟨trivial, ?_⟩
  clear hK K
  refine Txt.text_chain rfl (fun K hK => ?_)
  refine wp_store_row 47 (.tmp 4) (.tmp 21) rfl w.heap.size (ints .u8 F).toArray rfl rfl 47 _ H7.out.2.1 hi32 hold (ints_all _ _) ?_
  refine hK _ _ ⟨trivial, ?_⟩
  clear hK K
  refine Txt.text_done ?_
  simp only [Act.put]
  go_wp2_with fail
  refine bodyPost_ret (v := .agg (ints .u8 F).toArray) (results_cell_row rfl _ _ w.heap.size 47 _ (0, 0) _ rfl (heap_setRow H7.out.2.1 _) Tryd.underlying47 rfl hi32) rfl ?_
  refine ⟨?_, H7.out.1.setRow _ (by simp)⟩
  rw [← H7.out.2.2, ← HD.out]
  rfl

set_option maxRecDepth 100000 in
set_option maxHeartbeats 1000000 in
theorem tag_walk (u v : Value) (key xs : List Nat) (w : World) (p p' : Nat → Prop) (hk : ∀ x ∈ key, x < 256) (hx : ∀ x ∈ xs, x < 256) (hl : key.length < 1152921504606846976) (hn : xs.length < 288230376151711744) (hT : TurnsAt w) (hu : Cells w p u (ints .u8 key)) (hv : Cells w p' v (ints .u8 xs)) :
    Calls Tryd.prog 68 #[u, v] w fun e w' => e = .returned (.agg (ints .u8 (Sha.tag key xs)).toArray) ∧ Keep (· < w.heap.size) w w' := by
  have Hu := hid (hu.lt.mono (fun _ h => h.1))
  have Hv := hid (hv.lt.mono (fun _ h => h.1))
  have HT := hid hT
  clear hv hu hT
  go_enter Tryd.func68, Tryd.ntmps68
  go_wp2_with fail
  refine calls_world (fun w0 => w0.heap.size = w.heap.size + 1 ∧ Keep (· < w.heap.size) w w0 ∧ w0.heap[w.heap.size]? = some (.cells (ints .u8 (List.replicate 32 0)).toArray 47 (0, 0))) ⟨by simp, (Keep.refl _ _).alloc _ (fun _ h => h), heap_alloc_new w _⟩ ?_
  rintro w0 ⟨z0, k0, R0⟩
  refine (tagged_walk u key w0 _ hk hl (HT.out.keep k0 HT.out.lt) (Hu.out.keep k0 (fun _ h => h))).mono ?_
  rintro e w1 ⟨kb, rfl, k1, hkb⟩
  have H1 := hid (And.intro (k0.trans (k1.mono (fun k h => by omega))) (And.intro ((k1.block _ (by omega)).trans R0) hkb))
  have hz1 : w.heap.size < w1.heap.size := by have := k1.size; omega
  clear k0 R0 k1 hkb z0
  go_wp2_with fail
  refine (ktag_walk kb _ key v xs w1 _ hk hx hn (HT.out.keep H1.out.1 HT.out.lt) H1.out.2.2 (Hv.out.keep H1.out.1 (fun _ h => h))).mono ?_
  rintro e w2 ⟨rfl, k2⟩
  obtain ⟨F, hF⟩ : ∃ F, Sha.tag key xs = F := ⟨_, rfl⟩
  have hFl : F.length = 32 := by rw [← hF]; exact tag_length hk
  have hi32 := info32 F hFl
  have hold : (ints .u8 (List.replicate 32 0)).toArray.size = (ints .u8 F).toArray.size := by simp [ints_length, hFl]
  have H2 := hid (And.intro (H1.out.1.trans (k2.mono (fun k h => by omega))) (And.intro ((k2.block _ hz1).trans H1.out.2.1) hF))
  rw [hF]
  clear k2 hF H1
  go_wp2_with (refine wpList_store_row rfl 47 (.tmp 4) (.tmp 8) rfl w.heap.size (ints .u8 F).toArray rfl rfl 47 _ H2.out.2.1 hi32 hold (ints_all _ _) ?_)
  refine bodyPost_ret (v := .agg (ints .u8 F).toArray) (results_cell_row rfl _ _ w.heap.size 47 _ (0, 0) _ rfl (heap_setRow H2.out.2.1 _) Tryd.underlying47 rfl hi32) rfl ?_
  exact ⟨by rw [← H2.out.2.2], H2.out.1.setRow _ (by simp)⟩
end Go.Proofs.YtnpneippahdigaaDoor
