/-
  Step by step: the statement 'DigestPads'.
-/
import Derived.Test.YtjknjjcdgniodaaDoorAlive
import Derived.Test.YtjknjjcdgniodaaDoorMem4
namespace Go.Proofs.YtjknjjcdgniodaaDoor
open Go.RowKit Go.Proofs.Mem

theorem tag_long (key b : List Nat) (hk : ∀ x ∈ key, x < 256) (h : 64 < key.length) : Sha.tag key b = Sha.tag (Sha.of key) b := by
  have : Sha.pad (Sha.of key) = Sha.pad key := by
    unfold Sha.pad
    simp only [of_length hk]
    rw [if_pos h, if_neg (by decide), of_length hk]
  unfold Sha.tag Sha.inner Sha.outer
  rw [this]
theorem tag_padded (key b : List Nat) (r : Nat) (h : key.length + r ≤ 64) : Sha.tag (key ++ List.replicate r 0) b = Sha.tag key b := by
  have : Sha.pad (key ++ List.replicate r 0) = Sha.pad key := by
    unfold Sha.pad
    simp only [List.length_append, List.length_replicate]
    rw [if_neg (by omega), if_neg (by omega), List.append_assoc, List.length_append, List.length_replicate, List.replicate_append_replicate]
    congr 2
    omega
  unfold Sha.tag Sha.inner Sha.outer
  rw [this]

/-- 'int(uint(more) % uint(a - b))'. -/
theorem mod_of (more : Int) (a b : Nat) (h : b < a) (ha : a < 4611686018427387904 := by decide) : ∃ r : Nat, wrap64 ((IntKind.u64.wrap more).tmod ((a : Int) - (b : Int))) = (r : Int) ∧ r < a - b := by
  have h0 : 0 ≤ IntKind.u64.wrap more := by rw [IntKind.wrap_u64]; omega
  rw [Int.tmod_eq_emod_of_nonneg h0]
  have h1 : 0 ≤ IntKind.u64.wrap more % ((a : Int) - (b : Int)) := Int.emod_nonneg _ (by omega)
  have h2 : IntKind.u64.wrap more % ((a : Int) - (b : Int)) < (a : Int) - (b : Int) := Int.emod_lt_of_pos _ (by omega)
  refine ⟨(IntKind.u64.wrap more % ((a : Int) - (b : Int))).toNat, ?_, by omega⟩
  rw [Int.toNat_of_nonneg h1]
  unfold wrap64
  omega

set_option maxRecDepth 100000 in
set_option maxHeartbeats 2000000 in
theorem digestPads_walk (u v : Value) (key b : List Nat) (more : Int) (w : World) (p p' : Nat → Prop) (hk : ∀ x ∈ key, x < 256) (hx : ∀ x ∈ b, x < 256) (hT : TurnsAt w) (hu : Cells w p u (ints .u8 key)) (hv : Cells w p' v (ints .u8 b)) :
    Calls Tryd.prog 3 #[u, v, .int .i64 more] w fun e w' => e = .returned (.bool true) ∧ Keep (· < w.heap.size) w w' := by
  have Hu := hid (hu.lt.mono (fun _ h => h.1))
  have Hv := hid (hv.lt.mono (fun _ h => h.1))
  have HT := hid hT
  have l1 := hu.len_le
  have l2 := hv.len_le
  rw [ints_length] at l1 l2
  clear hv hu hT
  obtain ⟨a1, n1, c1, rfl, e1, m1, q1, _⟩ := Hu.out
  obtain ⟨a2, n2, c2, rfl, e2, m2, q2, _⟩ := Hv.out
  rw [ints_length] at e1 e2
  subst e1 e2
  have q1' : c1 ≤ 9223372036854775807 := by simpa [maxLen] using q1
  have q2' : c2 ≤ 9223372036854775807 := by simpa [maxLen] using q2
  clear q1 q2
  go_enter Tryd.func3, Tryd.ntmps3
  go_wp2_with fail
  refine (alive3_walk w HT.out).mono ?_
  rintro e w1 ⟨rfl, k1⟩
  have H1 := hid k1
  clear k1
  by_cases g1 : 3000 < key.length
  · have g1' : decide ((3000 : Int) < (key.length : Int)) = true := by simp; omega
    go_wp2_with fail
    go_ret
    exact ⟨rfl, H1.out⟩
  have g1' : decide ((3000 : Int) < (key.length : Int)) = false := by simp; omega
  by_cases g2 : 3000 < b.length
  · have g2' : decide ((3000 : Int) < (b.length : Int)) = true := by simp; omega
    go_wp2_with fail
    go_ret
    exact ⟨rfl, H1.out⟩
  have g2' : decide ((3000 : Int) < (b.length : Int)) = false := by simp; omega
  by_cases g3 : 64 < key.length
  · have g3' : decide ((64 : Int) < (key.length : Int)) = true := by simp; omega
    --<
    go_wp2_with fail
    refine (of_walk _ key w1 _ hk (by omega) (HT.out.keep H1.out HT.out.lt) (Hu.out.keep H1.out (fun _ h => h))).mono ?_
    rintro e w2 ⟨rfl, k2⟩
    obtain ⟨F, hF⟩ : ∃ F, Sha.of key = F := ⟨_, rfl⟩
    have hFl : F.length = 32 := by rw [← hF]; exact of_length hk
    have hFb : ∀ x ∈ F, x < 256 := by rw [← hF]; exact of_lt
    have hi32 := info32 F hFl
    have hold : (ints .u8 (List.replicate 32 0)).toArray.size = (ints .u8 F).toArray.size := by simp [ints_length, hFl]
    have H2 := hid (H1.out.trans (k2.mono (fun k h => by have := H1.out.size; omega)))
    rw [hF]
    have HF := hid hF
    clear k2 hF H1
    go_upto_region 7 with (refine wpList_store_row rfl 24 (.tmp 7) (.tmp 23) rfl w2.heap.size (ints .u8 F).toArray rfl rfl 24 _ (heap_alloc_new w2 _) hi32 hold (ints_all _ _) ?_)
    refine wp_world (fun w3 => Keep (· < w2.heap.size) w2 w3 ∧ w3.heap[w2.heap.size]? = some (.cells (ints .u8 F).toArray 24 (0, 0))) ⟨((Keep.refl _ _).alloc _ (fun _ h => h)).setRow _ (by simp), heap_setRow (heap_alloc_new w2 _) _⟩ ?_
    rintro w3 ⟨k3, h3⟩
    obtain ⟨d, hd⟩ : ∃ d, w2.heap.size = d := ⟨_, rfl⟩
    have hz2 : w.heap.size ≤ d := by rw [← hd]; exact H2.out.size
    have hz3 : d < w3.heap.size := by rw [← hd]; exact (Array.getElem?_eq_some_iff.1 h3).1
    rw [hd] at h3 ⊢
    have H3 := hid (And.intro ((H2.out.trans (k3.mono (fun k h => by omega))).drewN 1) h3)
    clear k3 h3 H2 hold hi32
    refine Txt.wp_region_text [true, true, false, true, true, false, true, true] (fun _ => True) (by kernel_rfl) (by kernel_rfl) trivial ?_
    iterate 2 (refine Txt.text_free rfl (fun K hK => ?_); go_simp; refine hK _ ?_; clear hK K)
    refine Txt.text_chain rfl (fun K hK => ?_)
    go_simp
    refine (tag_walk _ _ key b w3.drew _ _ hk hx (by omega) (by omega) (HT.out.keep H3.out.1 HT.out.lt) (Hu.out.keep H3.out.1 (fun _ h => h)) (Hv.out.keep H3.out.1 (fun _ h => h))).mono ?_
    rintro e w4 ⟨rfl, k4⟩
    have H4 := hid (And.intro (H3.out.1.trans (k4.mono (fun k h => by show _ < w3.heap.size; omega))) ((k4.block d hz3).trans H3.out.2))
    clear k4 H3
    refine hK _ _ ⟨trivial, ?_⟩
    clear hK K
    iterate 2 (refine Txt.text_free rfl (fun K hK => ?_); go_simp; refine hK _ ?_; clear hK K)
    refine Txt.text_chain rfl (fun K hK => ?_)
    go_simp
    have hcF : Cells w4 (fun _ => True) (.slice (some ⟨d, 0, none⟩) 32 32) (ints .u8 F) := by
      have := Cells.of_block (w := w4) (p := fun _ => True) (cur := ints .u8 F) (off := 0) (n := 32) (cap := 32) H4.out.2 trivial (by rw [ints_length, hFl]; decide) (Nat.le_refl _) (by decide)
      rwa [List.drop_zero, List.take_of_length_le (by rw [ints_length, hFl]; exact Nat.le_refl _)] at this
    refine (tag_walk _ _ F b w4 _ _ hFb hx (by rw [hFl]; decide) (by omega) (HT.out.keep H4.out.1 HT.out.lt) hcF (Hv.out.keep H4.out.1 (fun _ h => h))).mono ?_
    rintro e w5 ⟨rfl, k5⟩
    have H5 := hid (H4.out.1.trans (k5.mono (fun k h => by have := H4.out.1.size; omega)))
    obtain ⟨G, hG⟩ : ∃ G, Sha.tag F b = G := ⟨_, rfl⟩
    have hGl : G.length = 32 := by rw [← hG]; exact tag_length hFb
    have hGb : ∀ x ∈ G, x < 256 := by rw [← hG]; exact tag_lt
    have hGk : Sha.tag key b = G := by rw [tag_long key b hk g3, HF.out, hG]
    rw [hG, hGk]
    have eq := fun w0 => eql_bytes (P := Tryd.prog) 24 5 32 Tryd.underlying24 Tryd.underlying5 (by kernel_rfl) w0 hGb hGb hGl hGl
    simp only [beq_self_eq_true] at eq
    clear k5 hG hGk hcF H4
    refine hK _ _ ⟨trivial, ?_⟩
    clear hK K
    iterate 2 (refine Txt.text_free rfl (fun K hK => ?_); go_simp; refine hK _ ?_; clear hK K)
    refine Txt.text_done ?_
    go_wp2_with fail
    go_ret
    exact ⟨rfl, H5.out⟩
    -->
  · have g3' : decide ((64 : Int) < (key.length : Int)) = false := by simp; omega
    obtain ⟨i0, hi0, hz0, hs0, hb0⟩ := info_parts (show (Tryd.prog.info? 5).map (fun i => (i.zero, i.size, i.bytes)) = some (some (.int .u8 0), 1, 1) by kernel_rfl)
    go_upto_region 9 with (refine wpList_app rfl (.tmp 31) (.tmp 32) 22 22 rfl _ (append_own (P := Tryd.prog) 22 5 i0 (.int .u8 0) 1 Tryd.underlying22 hi0 hz0 hs0 hb0 rfl (w1.alloc _) _ w1.heap.size _ _ [] (ints .u8 key) (owns_empty w1 w1.heap.size 5 (Nat.le_refl _)) ((Hu.out.keep H1.out (fun _ h => h)).keep ((Keep.refl (· < w.heap.size) _).alloc _ (fun k h => Nat.lt_of_lt_of_le h H1.out.size)) (fun _ h => h)) (ints_one _ _) (by simp [ints_length]; omega) (by simp [ints_length]; omega) (by simp)) ?_; rintro v1 w2 ⟨hown, hg⟩)
    rw [List.nil_append] at hown
    have K2 : Keep (· < w.heap.size) w w2 := H1.out.trans ((((Keep.refl (· < w1.heap.size) w1).alloc _ (fun _ h => h)).trans (Keep.grownBy (p := (· < w1.heap.size)) hg (fun k h => ⟨by simp; omega, h⟩) (owns_empty w1 w1.heap.size 5 (Nat.le_refl _)))).mono (fun k h => Nat.lt_of_lt_of_le h H1.out.size))
    have hB : w1.heap.size ≤ w2.heap.size := by have := hg.size; simp at this; omega
    have H2 := hid (And.intro hown K2)
    have hw1 := H1.out.size
    clear hown hg K2 H1
    go_wp2_with fail
    obtain ⟨r, hr, hr2⟩ : ∃ r : Nat, wrap64 ((IntKind.u64.wrap more).tmod (65 - (key.length : Int))) = (r : Int) ∧ r < 65 - key.length := mod_of more 65 key.length (by omega)
    rw [hr]
    clear hr
    go_loopg [42, 8] r (fun k s42 s8 wr => ∃ j : Nat, j + k = r ∧ s42 = .int .i64 (j : Int) ∧ wr.ownsRow w1.heap.size 5 1 s8 (ints .u8 (key ++ List.replicate j 0)).length (ints .u8 (key ++ List.replicate j 0)) ∧ Keep (· < w.heap.size) w wr ∧ w1.heap.size ≤ wr.heap.size)
    case atStart => exact ⟨0, by omega, rfl, by simpa using H2.out.1, H2.out.2, hB⟩
    case round =>
      obtain ⟨j, hj, rfl, hown, hk2, hz2⟩ := hrel
      have H3 := hid (And.intro hown hk2)
      clear hown hk2
      by_cases hjr : j < r
      · go_wp2_with (refine wpList_app rfl (.tmp 44) (.tmp 45) 22 22 rfl _ (append_own (P := Tryd.prog) 22 5 i0 (.int .u8 0) 1 Tryd.underlying22 hi0 hz0 hs0 hb0 rfl (wr.alloc _) _ w1.heap.size _ _ (ints .u8 (key ++ List.replicate j 0)) (ints .u8 [0]) (owns_keep H3.out.1 ((Keep.refl (· < wr.heap.size) _).alloc _ (fun _ h => h))) (p := fun _ => True) (Cells.of_block (cur := ints .u8 [0]) (off := 0) (heap_alloc_new wr _) trivial (by decide) (Nat.le_refl _) (by decide)) (ints_one _ _) (by simp [ints_length]; omega) (by simp [ints_length]; omega) (by simp; omega)) ?_; rintro v1' w3 ⟨hown, hg⟩)
        go_roundg (gk - 1)
        case measure => omega
        case rel =>
          have hz3 := hg.size
          simp at hz3
          refine ⟨j + 1, by omega, by go_num, ?_, ?_, by omega⟩
          · rw [← ints_append, List.append_assoc] at hown
            rwa [List.replicate_succ' (n := j) (a := 0)]
          · exact H3.out.2.trans ((((Keep.refl (· < wr.heap.size) wr).alloc _ (fun _ h => h)).mono (fun k h => by have := H3.out.2.size; omega)).trans (Keep.grownBy (p := (· < w.heap.size)) hg (fun k h => ⟨by have := H3.out.2.size; simp; omega, by omega⟩) (owns_keep H3.out.1 ((Keep.refl (· < wr.heap.size) _).alloc _ (fun _ h => h)))))
      · obtain rfl : j = r := by omega
        go_wp2_with fail
        refine (tag_walk _ _ key b wr _ _ hk hx (by omega) (by omega) (HT.out.keep H3.out.2 HT.out.lt) (Hu.out.keep H3.out.2 (fun _ h => h)) (Hv.out.keep H3.out.2 (fun _ h => h))).mono ?_
        rintro e w4 ⟨rfl, k4⟩
        have H4 := hid (And.intro (H3.out.2.trans (k4.mono (fun k h => by have := H3.out.2.size; omega))) (owns_keep H3.out.1 k4))
        have hkp : ∀ x ∈ key ++ List.replicate j 0, x < 256 := by
          intro x hx
          rcases List.mem_append.1 hx with h | h
          · exact hk x h
          · rw [(List.mem_replicate.1 h).2]; decide
        obtain ⟨G, hG⟩ : ∃ G, Sha.tag key b = G := ⟨_, rfl⟩
        have hGl : G.length = 32 := by rw [← hG]; exact tag_length hk
        have hGb : ∀ x ∈ G, x < 256 := by rw [← hG]; exact tag_lt
        have hGk : Sha.tag (key ++ List.replicate j 0) b = G := by rw [tag_padded key b j (by omega), hG]
        have HGk := hid hGk
        have HKP := hid hkp
        rw [hG]
        have eq := fun w0 => eql_bytes (P := Tryd.prog) 24 5 32 Tryd.underlying24 Tryd.underlying5 (by kernel_rfl) w0 hGb hGb hGl hGl
        simp only [beq_self_eq_true] at eq
        clear k4 hG hGk H3 hkp
        go_wp2_with fail
        refine (tag_walk _ _ (key ++ List.replicate j 0) b w4 _ _ HKP.out hx (by simp; omega) (by omega) (HT.out.keep H4.out.1 HT.out.lt) (owns_cells H4.out.2) (Hv.out.keep H4.out.1 (fun _ h => h))).mono ?_
        rintro e w5 ⟨rfl, k5⟩
        have H5 := hid (H4.out.1.trans (k5.mono (fun k h => by have := H4.out.1.size; omega)))
        rw [HGk.out]
        clear k5 H4
        go_wp2_with fail
        go_ret
        exact ⟨rfl, H5.out⟩
end Go.Proofs.YtjknjjcdgniodaaDoor
