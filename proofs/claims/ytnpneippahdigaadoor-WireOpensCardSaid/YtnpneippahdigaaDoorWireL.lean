/-
  Step by step: 'same' of the statements of layer 21; 'Sign' of a frame that is not in form.
-/
import Derived.Test.YtnpneippahdigaaDoorWireK
namespace Go.Proofs.YtnpneippahdigaaDoor
open Go.RowKit Go.Proofs.Mem Go.Proofs.Txt

set_option maxRecDepth 100000 in
set_option maxHeartbeats 1000000 in
theorem same21_walk (t s : Int) (tag body : List Nat) (tv fb rb : Value) (w : World) (p p' p'' : Nat → Prop) (htag : tag.length = 32) (htv : Cells w p tv (ints .u8 tag) ∨ (Cells w p tv (ints .u8 []) ∧ tag = zeros32)) (hfb : Cells w p' fb (ints .u8 body)) (hrb : Cells w p'' rb (ints .u8 body)) :
    Calls Tryd.prog 42 #[.agg (frC t s tag fb).toArray, .agg (rfC t s tv rb).toArray] w fun e w' => e = .returned (.bool true) ∧ Keep (· < w.heap.size) w w' := by
  obtain ⟨fa, fn, fc, rfl⟩ := cells_form hfb
  obtain ⟨ra, rn, rc, rfl⟩ := cells_form hrb
  have HF := hid (hfb.lt.mono (q := fun b => b < w.heap.size) (fun _ h => h.1))
  have HR := hid (hrb.lt.mono (q := fun b => b < w.heap.size) (fun _ h => h.1))
  clear hfb hrb
  have eb : ((bstr tag).toList == (bstr tag).toList) = true := by simp
  have EB := hid eb
  clear eb
  rcases htv with h1 | ⟨h1, hz⟩
  case' inl =>
    obtain ⟨ta, tn, tc, rfl⟩ := cells_form h1
    have htn : tn = 32 := by
      obtain ⟨_, _, _, e, h2, _⟩ := id h1
      injection e with _ e2 _
      rw [e2, h2, ints_length, htag]
    subst htn
    have HTV := hid (h1.lt.mono (q := fun b => b < w.heap.size) (fun _ h => h.1))
    have kk : Keep (· < w.heap.size) w ((w.alloc (.cells (frC t s tag (.slice fa fn fc)).toArray 49)).alloc (.cells (rfC t s (.slice ta 32 tc) (.slice ra rn rc)).toArray 83)) := ((Keep.refl _ _).alloc _ (fun _ h => h)).alloc _ (fun k h => by simp; omega)
    have hb1 := heap_alloc2_new w (.cells (frC t s tag (.slice fa fn fc)).toArray 49) (.cells (rfC t s (.slice ta 32 tc) (.slice ra rn rc)).toArray 83)
    have hb0 := (Below.heap_alloc (w.alloc (.cells (frC t s tag (.slice fa fn fc)).toArray 49)) (.cells (rfC t s (.slice ta 32 tc) (.slice ra rn rc)).toArray 83) w.heap.size (by simp)).trans (heap_alloc_new w (.cells (frC t s tag (.slice fa fn fc)).toArray 49))
    have HH := hid (And.intro kk (And.intro hb0 hb1))
    have c2 := (cell_at hb1 2).trans (show (rfC t s (.slice ta 32 tc) (.slice ra rn rc))[2]? = some (.slice ta 32 tc) from rfl)
    have TAGL' := hid htag
    clear h1 htag kk hb0 hb1
    go_enter Tryd.func42, Tryd.ntmps42
    go_upto_region 4 with fail
    clear c2
    refine wp_world (fun w1 => Keep (· < w.heap.size) w w1 ∧ w1.heap[w.heap.size]? = some (.cells (frC t s tag (.slice fa fn fc)).toArray 49 (0, 0)) ∧ w1.heap[w.heap.size + 1]? = some (.cells (rfC t s (.slice ta 32 tc) (.slice ra rn rc)).toArray 83 (0, 0))) HH.out ?_
    rintro w1 ⟨k1, F1, R1⟩
    have cu := conv_bytes21 w1.drew (HTV.out.keep (k1.drewN 1) (fun _ h => h))
    obtain ⟨u, hu⟩ : ∃ u, Value.slice ta 32 tc = u := ⟨_, rfl⟩
  case' inr =>
    obtain ⟨ta, tn, tc, rfl⟩ := cells_form h1
    have htn : tn = 0 := by
      obtain ⟨_, _, _, e, h2, _⟩ := id h1
      injection e with _ e2 _
      rw [e2, h2]; rfl
    subst htn
    obtain ⟨i0, hi0, hz0, hs0, hb0⟩ := u8_info
    have mk : ∀ w0 : World, (Instr.makeSlice 32 (.int .i64 32) (.int .i64 32)).run Tryd.prog w0 = .ok (.slice (some ⟨w0.heap.size, 0, none⟩) 32 32) (w0.alloc (.cells (ints .u8 (List.replicate 32 0)).toArray 5)) := fun w0 => make_ints (P := Tryd.prog) 32 5 i0 .u8 1 Tryd.underlying32 hi0 hz0 hs0 hb0 32 32 (by omega) (by omega) (by omega) w0
    have kk : Keep (· < w.heap.size) w (((w.alloc (.cells (frC t s tag (.slice fa fn fc)).toArray 49)).alloc (.cells (rfC t s (.slice ta 0 tc) (.slice ra rn rc)).toArray 83)).alloc (.cells (ints .u8 (List.replicate 32 0)).toArray 5)) := (((Keep.refl _ _).alloc _ (fun _ h => h)).alloc _ (fun k h => by simp; omega)).alloc _ (fun k h => by simp; omega)
    have hb1 := heap_alloc2_new w (.cells (frC t s tag (.slice fa fn fc)).toArray 49) (.cells (rfC t s (.slice ta 0 tc) (.slice ra rn rc)).toArray 83)
    have hb0' := (Below.heap_alloc (w.alloc (.cells (frC t s tag (.slice fa fn fc)).toArray 49)) (.cells (rfC t s (.slice ta 0 tc) (.slice ra rn rc)).toArray 83) w.heap.size (by simp)).trans (heap_alloc_new w (.cells (frC t s tag (.slice fa fn fc)).toArray 49))
    have c2 := (cell_at hb1 2).trans (show (rfC t s (.slice ta 0 tc) (.slice ra rn rc))[2]? = some (.slice ta 0 tc) from rfl)
    have hb2 := (Below.heap_alloc ((w.alloc (.cells (frC t s tag (.slice fa fn fc)).toArray 49)).alloc (.cells (rfC t s (.slice ta 0 tc) (.slice ra rn rc)).toArray 83)) (.cells (ints .u8 (List.replicate 32 0)).toArray 5) w.heap.size (by simp; omega)).trans hb0'
    have hb3 := (Below.heap_alloc ((w.alloc (.cells (frC t s tag (.slice fa fn fc)).toArray 49)).alloc (.cells (rfC t s (.slice ta 0 tc) (.slice ra rn rc)).toArray 83)) (.cells (ints .u8 (List.replicate 32 0)).toArray 5) (w.heap.size + 1) (by simp)).trans hb1
    have hb4 := heap_alloc_new ((w.alloc (.cells (frC t s tag (.slice fa fn fc)).toArray 49)).alloc (.cells (rfC t s (.slice ta 0 tc) (.slice ra rn rc)).toArray 83)) (.cells (ints .u8 (List.replicate 32 0)).toArray 5)
    simp only [World.size_alloc] at hb4
    have HH := hid (And.intro kk (And.intro hb2 (And.intro hb3 hb4)))
    have HZ := hid hz
    have TAGL' := hid htag
    clear h1 htag kk hb0' hb1 hb2 hb3 hb4 hi0 hz0 hs0 hb0 hz
    go_enter Tryd.func42, Tryd.ntmps42
    go_upto_region 4 with fail
    clear c2 mk
    refine wp_world (fun w1 => Keep (· < w.heap.size) w w1 ∧ w1.heap[w.heap.size]? = some (.cells (frC t s tag (.slice fa fn fc)).toArray 49 (0, 0)) ∧ w1.heap[w.heap.size + 1]? = some (.cells (rfC t s (.slice ta 0 tc) (.slice ra rn rc)).toArray 83 (0, 0)) ∧ w1.heap[w.heap.size + 1 + 1]? = some (.cells (ints .u8 (List.replicate 32 0)).toArray 5 (0, 0))) HH.out ?_
    rintro w1 ⟨k1, F1, R1, Z1⟩
    have cz : Cells w1 (fun _ => True) (.slice (some ⟨w.heap.size + 1 + 1, 0, none⟩) 32 32) (ints .u8 tag) := by
      have := Cells.of_block (w := w1) (p := fun _ => True) (cur := ints .u8 (List.replicate 32 0)) (off := 0) (n := 32) (cap := 32) Z1 trivial (by rw [ints_length]; decide) (Nat.le_refl _) (by decide)
      rw [List.drop_zero, List.take_of_length_le (by rw [ints_length]; decide)] at this
      rw [HZ.out]; exact this
    have cu := conv_bytes21 w1.drew (show Cells w1.drew _ _ _ from cz)
    obtain ⟨u, hu⟩ : ∃ u, Value.slice (some ⟨w.heap.size + 1 + 1, 0, none⟩) 32 32 = u := ⟨_, rfl⟩
    have R1 := R1
    clear Z1 cz HZ
  all_goals
    have TAGL := TAGL'.out
    have f0 : w1.drew.cell? ⟨w.heap.size, 0, none⟩ = some (.int .i64 t) := (cell_at F1 0).trans (frC_0 _ _ _ _)
    have f1 : w1.drew.cell? ⟨w.heap.size, 1, none⟩ = some (.int .i64 s) := (cell_at F1 1).trans (frC_1 _ _ _ _)
    have f34 : w1.drew.cell? ⟨w.heap.size, 34, none⟩ = some (.slice fa fn fc) := (cell_at F1 34).trans (frC_34 TAGL _ _ _)
    have g0 : w1.drew.cell? ⟨w.heap.size + 1, 0, none⟩ = some (.int .i64 t) := cell_at R1 0
    have g1 : w1.drew.cell? ⟨w.heap.size + 1, 1, none⟩ = some (.int .i64 s) := cell_at R1 1
    have g3 : w1.drew.cell? ⟨w.heap.size + 1, 3, none⟩ = some (.slice ra rn rc) := cell_at R1 3
    have ct2 : Cells w1.drew (fun _ => True) (.slice (some ⟨w.heap.size, 2, none⟩) 32 32) (ints .u8 tag) := by
      have := Cells.of_block (w := w1) (p := fun _ => True) (cur := frC t s tag (.slice fa fn fc)) (off := 2) (n := 32) (cap := 32) F1 trivial (by rw [frC_length TAGL]; decide) (Nat.le_refl _) (by decide)
      rwa [frC_tag TAGL] at this
    have cv := conv_bytes21 w1.drew ct2
    rw [hu] at cu ⊢
    have K1 := hid k1
    clear hu F1 R1 k1 ct2 TAGL
    refine wp_region_plan [true, true, true, true, true, true, true, true, true, true, true, true, true, true, true, true, true, true, true, true, true, true, true, true, true, false, true, false] (.free 0 (.free 1 (.free 2 (.free 3 (.free 4 (.free 5 (.free 6 (.free 7 (.free 8 (.free 9 (.free 10 (.free 11 (.free 12 (.free 13 (.free 14 (.free 15 (.free 16 (.free 17 (.free 18 (.free 19 (.free 20 (.free 21 (.free 22 (.free 23 (.free 24 (.one 25 (.free 26 (.last 27)))))))))))))))))))))))))))) (fun wx => wx = w1.drew) (by kernel_rfl) (by kernel_rfl) rfl ?_
    refine plan_free rfl (by rfl) (fun K hK => ?_); go_simp; refine hK _ ?_; clear hK K
    refine plan_held (.int .i64 t) rfl (by rfl) (fun w0 h0 => by subst h0; go_simp) (fun K hK => ?_); refine hK _ ?_; clear hK K
    refine plan_free rfl (by rfl) (fun K hK => ?_); go_simp; refine hK _ ?_; clear hK K
    refine plan_held (.int .i64 t) rfl (by rfl) (fun w0 h0 => by subst h0; go_simp) (fun K hK => ?_); refine hK _ ?_; clear hK K
    iterate 3 (refine plan_free rfl (by rfl) (fun K hK => ?_); go_simp; refine hK _ ?_; clear hK K)
    refine plan_held (.int .i64 s) rfl (by rfl) (fun w0 h0 => by subst h0; go_simp) (fun K hK => ?_); refine hK _ ?_; clear hK K
    refine plan_free rfl (by rfl) (fun K hK => ?_); go_simp; refine hK _ ?_; clear hK K
    refine plan_held (.int .i64 s) rfl (by rfl) (fun w0 h0 => by subst h0; go_simp) (fun K hK => ?_); refine hK _ ?_; clear hK K
    iterate 5 (refine plan_free rfl (by rfl) (fun K hK => ?_); go_simp; refine hK _ ?_; clear hK K)
    refine plan_held (.string (bstr tag)) rfl (by rfl) (fun w0 h0 => by subst h0; go_simp) (fun K hK => ?_); refine hK _ ?_; clear hK K
    refine plan_free rfl (by rfl) (fun K hK => ?_); go_simp; refine hK _ ?_; clear hK K
    refine plan_held (.string (bstr tag)) rfl (by rfl) (fun w0 h0 => by subst h0; go_simp) (fun K hK => ?_); refine hK _ ?_; clear hK K
    have eb := EB.out
    iterate 4 (refine plan_free rfl (by rfl) (fun K hK => ?_); go_simp; refine hK _ ?_; clear hK K)
    refine plan_held (.slice fa fn fc) rfl (by rfl) (fun w0 h0 => by subst h0; go_simp) (fun K hK => ?_); refine hK _ ?_; clear hK K
    refine plan_free rfl (by rfl) (fun K hK => ?_); go_simp; refine hK _ ?_; clear hK K
    refine plan_held (.slice ra rn rc) rfl (by rfl) (fun w0 h0 => by subst h0; go_simp) (fun K hK => ?_); refine hK _ ?_; clear hK K
    refine plan_one rfl (by rfl) (fun K hK => ?_); go_simp
    refine (sameb_walk _ _ body w1.drew _ _ (HF.out.keep (K1.out.drewN 1) (fun _ h => h)) (HR.out.keep (K1.out.drewN 1) (fun _ h => h))).mono ?_
    rintro e w2 ⟨rfl, rfl⟩
    refine hK _ _ ⟨rfl, ?_⟩
    clear hK K
    refine plan_free rfl (by rfl) (fun K hK => ?_); go_simp; refine hK _ ?_; clear hK K
    refine plan_last rfl (by rfl) (fun K hK => ?_); go_simp
    refine hK _ _ ?_
    clear hK K
    go_wp2_with fail
    go_ret
    exact ⟨rfl, K1.out.drewN 1⟩

set_option maxRecDepth 100000 in
set_option maxHeartbeats 1000000 in
theorem sign_bad (kv bv : Value) (body : List Nat) (t s : Int) (w : World) (et : TypeId) (ex : Value) (p' : Nat → Prop) (hbl : body.length ≤ 1099511627776) (hf : Wr.form t s body.length = false) (he : w.cell? ⟨11, 0, none⟩ = some (.iface et ex)) (hl : 11 < w.heap.size) (hbv : Cells w p' bv (ints .u8 body)) :
    Calls Tryd.prog 27 #[kv, .int .i64 t, .int .i64 s, bv] w fun e w' => e = .returned (.tuple #[.agg (frC 0 0 zeros32 (.slice none 0 0)).toArray, .iface et ex]) ∧ Keep (· < w.heap.size) w w' := by
  have HB := hid (hbv.lt.mono (q := fun b => b < w.heap.size) (fun _ h => h.1))
  have HE := hid he
  clear hbv he
  go_enter Tryd.func27, Tryd.ntmps27
  go_wp2_with fail
  refine calls_world (fun w0 => Keep (· < w.heap.size) w w0 ∧ (∃ Z : Array Value, Z.size = 35 ∧ w0.heap[w.heap.size]? = some (.cells Z 49 (0, 0))) ∧ w.heap.size < w0.heap.size) ⟨(Keep.refl _ _).alloc _ (fun _ h => h), ⟨_, by kernel_rfl, heap_alloc_new w _⟩, by simp⟩ ?_
  rintro w0 ⟨k0, ⟨Z, hZ, R0⟩, z0⟩
  refine (clone_walk bv body w0 _ (by omega) (HB.out.keep k0 (fun _ h => h))).mono ?_
  rintro e w1 ⟨b', rfl, fb, k1, z1⟩
  have k01 : Keep (· < w.heap.size) w w1 := k0.trans (k1.mono (fun b h => Nat.lt_trans h z0))
  have H1 := hid (And.intro k01 (And.intro ((k1.block _ z0).trans R0) fb))
  have z01 : w.heap.size < w1.heap.size := Nat.lt_of_lt_of_le z0 z1
  clear k0 R0 k1 k01 fb z1
  obtain ⟨ba, bn, bc, rfl⟩ := cells_form H1.out.2.2.cells
  have hl35 : 35 = (frC t s zeros32 (.slice ba bn bc)).toArray.size := by rw [List.size_toArray, frC_length zeros32_length]
  have hi := frC_size zeros32_length t s (.slice ba bn bc)
  have h1 := frC_one t s zeros32 (.slice ba bn bc) rfl
  have bd := build_frame t s (.slice ba bn bc) rfl
  go_upto_region 2 with (first | ((with_reducible refine wpList_bld rfl 49 [(0, .tmp 12), (1, .tmp 13), (3, .tmp 15)] rfl (.agg (frC t s zeros32 (.slice ba bn bc)).toArray) ?hr ?_); case hr => exact bd _) | refine wpList_store_row rfl 49 (.tmp 10) (.tmp 16) rfl w1.heap.size (frC t s zeros32 (.slice ba bn bc)).toArray rfl rfl 49 _ (heap_alloc_new w1 _) hi hl35 h1 ?_)
  refine wp_world (fun w2 => w2.heap[w1.heap.size]? = some (.cells (frC t s zeros32 (.slice ba bn bc)).toArray 49 (0, 0)) ∧ Keep (· < w1.heap.size) w1 w2 ∧ w1.heap.size < w2.heap.size) ⟨heap_setRow (heap_alloc_new w1 _) _, ((Keep.refl _ _).alloc _ (fun _ h => h)).setRow _ (by simp), by simp⟩ ?_
  rintro w2 ⟨F2, k2, z2⟩
  obtain ⟨F, hF⟩ : ∃ F, w1.heap.size = F := ⟨_, rfl⟩
  rw [hF] at F2 z2 ⊢
  have zF : w.heap.size < F := by rw [← hF]; exact z01
  have H2 := hid (And.intro (H1.out.1.trans (k2.mono (fun b h => Nat.lt_trans h z01))) (And.intro ((k2.block _ z01).trans H1.out.2.1) F2))
  have hbn : bn = body.length := by
    obtain ⟨_, _, _, e, h1, _⟩ := H1.out.2.2.row.cells
    injection e with _ e2 _
    rw [e2, h1, ints_length]
  clear F2 k2 hF bd hl35 h1 z01 H1
  have HBN := hid hbn
  clear hbn
  go_wp2_with (refine wpList_load_row rfl 49 (.tmp 10) rfl F rfl 49 _ (0, 0) _ H2.out.2.2 Tryd.underlying49 rfl hi ?_)
  refine (check_bad t s zeros32 ba bn bc w2 zeros32_length (.iface et ex) (by rw [HBN.out]; exact hf) (by rw [HBN.out]; omega) ((H2.out.1.cell (x := ⟨_, 0, none⟩) hl).trans HE.out) (by omega)).mono ?_
  rintro e w3 ⟨rfl, k3⟩
  have H3 := hid (And.intro (H2.out.1.trans (k3.mono (fun b h => by omega))) ((k3.block _ (by omega)).trans H2.out.2.1))
  have hi0 := frC_size zeros32_length 0 0 (.slice none 0 0)
  have h10 := frC_one 0 0 zeros32 (.slice none 0 0) rfl
  have hold : Z.size = (frC 0 0 zeros32 (.slice none 0 0)).toArray.size := by rw [hZ, List.size_toArray, frC_length zeros32_length]
  clear k3 H2 z2 hZ hf hi
  go_wp2_with (refine wpList_store_row rfl 49 (.tmp 8) (.tmp 21) rfl w.heap.size (frC 0 0 zeros32 (.slice none 0 0)).toArray rfl rfl 49 _ H3.out.2 hi0 hold h10 ?_)
  refine bodyPost_ret (v := .tuple #[.agg (frC 0 0 zeros32 (.slice none 0 0)).toArray, .iface et ex]) (results_cell_row_tmp rfl _ _ w.heap.size 49 _ (0, 0) _ rfl (heap_setRow H3.out.2 _) Tryd.underlying49 rfl hi0 _ rfl) rfl ?_
  exact ⟨rfl, H3.out.1.setRow _ (Nat.lt_irrefl _)⟩
end Go.Proofs.YtnpneippahdigaaDoor
