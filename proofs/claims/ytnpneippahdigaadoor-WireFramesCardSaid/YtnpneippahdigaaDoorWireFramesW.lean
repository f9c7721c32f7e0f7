/-
  Step by step: the statement 'WireFrames'.
-/
import Derived.Test.YtnpneippahdigaaDoorWireL
import Derived.Test.YtnpneippahdigaaDoorWireH2
import Derived.Test.YtnpneippahdigaaDoorWireI
import Derived.Test.YtnpneippahdigaaDoorWireE
import Derived.Test.YtnpneippahdigaaDoorRefTag
namespace Go.Proofs.YtnpneippahdigaaDoor
open Go.RowKit Go.Proofs.Mem Go.Proofs.Txt

theorem isFrame_form (t s : Int) (tag body : List Nat) (h : tag.length = 32) (hf : Wr.form t s body.length = true) : Wr.isFrame (Wr.bytes t s tag body) = true := by
  obtain ⟨f1, f2, f3, f4, f5⟩ := (Wr.form_iff _ _ _).1 hf
  rw [Wr.isFrame_iff, Wr.bytes_length, h, Wr.seqOf_bytes]
  unfold Wr.u64
  omega
theorem lay_rframe : structLay Tryd.prog 83 = some (rfC 0 0 (.slice none 0 0) (.slice none 0 0), [(0, 1), (1, 1), (2, 1), (3, 1)]) := by kernel_rfl
theorem build_rframe (t s : Int) (ta ba : Option Addr) (tn tc bn bc : Nat) (w : World) : (Instr.build 83 #[(0, .int .i64 t), (1, .int .i64 s), (2, .slice ta tn tc), (3, .slice ba bn bc)]).run Tryd.prog w = .ok (.agg (rfC t s (.slice ta tn tc) (.slice ba bn bc)).toArray) w := by
  refine run_build w _ _ _ ?_
  rw [built_struct lay_rframe]
  rfl
theorem rfC_size (t s : Int) (a b : Value) : (Tryd.prog.info? 83).map (·.size) = some (rfC t s a b).toArray.size := by
  rw [List.size_toArray]
  kernel_rfl

theorem get_bytes (v : Value) (t s : Int) (tag body : List Nat) (w : World) (p : Nat → Prop) (htag : tag.length = 32) (htb : ∀ x ∈ tag, x < 256) (hb : ∀ x ∈ body, x < 256) (hf : Wr.form t s body.length = true) (hv : Cells w p v (ints .u8 (Wr.bytes t s tag body))) :
    Calls Tryd.prog 36 #[v] w fun e w' => ∃ b', e = .returned (.tuple #[.agg (frC t s tag b').toArray, .nilIface]) ∧ Fresh w' w.heap.size b' (ints .u8 body) ∧ Keep (· < w.heap.size) w w' ∧ w.heap.size ≤ w'.heap.size := by
  obtain ⟨f1, f2, f3, f4, f5⟩ := (Wr.form_iff _ _ _).1 hf
  have e1 : (((Wr.bytes t s tag body).getD 0 0 : Nat) : Int) = t := by rw [Wr.bytes_head]; unfold Wr.u8; omega
  have e2 : ((Wr.seqOf (Wr.bytes t s tag body) : Nat) : Int) = s := by rw [Wr.seqOf_bytes]; unfold Wr.u64; omega
  have := get_good v (Wr.bytes t s tag body) w p (Wr.bytes_lt t s tag body htb hb) hv (isFrame_form t s tag body htag hf)
  rw [e1, e2, Wr.bytes_tag t s tag body htag, Wr.bytes_body t s tag body htag] at this
  exact this

set_option maxRecDepth 100000 in
set_option maxHeartbeats 4000000 in
theorem wireFrames_walk (fbv kv : Value) (t s : Int) (tag body key : List Nat) (xs : List Addr) (w : World) (p p' : Nat → Prop) (htag : tag.length = 32) (htb : ∀ x ∈ tag, x < 256) (hb : ∀ x ∈ body, x < 256) (hk : ∀ x ∈ key, x < 256) (hT : TurnsAt w) (he : ErrsAt w errGs xs) (hd : xs.Nodup) (hfb : Cells w p fbv (ints .u8 body)) (hkv : Cells w p' kv (ints .u8 key)) :
    Calls Tryd.prog 11 #[.agg (frC t s tag fbv).toArray, kv] w fun e w' => e = .returned (.bool true) ∧ Keep (· < w.heap.size) w w' := by
  have HK := hid (hkv.lt.mono (q := fun b => b < w.heap.size) (fun _ h => h.1))
  have HB := hid (hfb.lt.mono (q := fun b => b < w.heap.size) (fun _ h => h.1))
  have HT := hid hT
  have Hk := hid hk
  have Hb := hid hb
  have HG := hid (And.intro htag htb)
  obtain ⟨et, ex, hev⟩ : ∃ et ex, errV xs 11 = .iface et ex := ⟨_, _, rfl⟩
  have EE := hid (show ∀ w0 : World, Keep (· < w.heap.size) w w0 → w0.cell? ⟨11, 0, none⟩ = some (.iface et ex) ∧ 11 < w0.heap.size from fun w0 k => by
    have := errs_at (he.keep k (fun _ h => h)) 10 _ rfl
    rwa [hev] at this)
  have NE := hid (show ∀ w0 : World, Keep (· < w.heap.size) w w0 → Calls Tryd.prog 19 #[.iface et ex] w0 (fun e w' => e = .returned (.int .i64 11) ∧ Keep (· < w0.heap.size) w0 w') from fun w0 k => by
    have := num_err xs 11 w0 (by decide) (he.keep k (fun _ h => h)) hd
    rw [hev] at this
    exact this)
  obtain ⟨ka, kn, kc, rfl⟩ := cells_form hkv
  obtain ⟨fa, fn, fc, rfl⟩ := cells_form hfb
  have hkn : kn = key.length := by
    obtain ⟨_, _, _, e, h1, _⟩ := id hkv
    injection e with _ e2 _
    rw [e2, h1, ints_length]
  have hfn : fn = body.length := by
    obtain ⟨_, _, _, e, h1, _⟩ := id hfb
    injection e with _ e2 _
    rw [e2, h1, ints_length]
  have HKN := hid (And.intro hkn hfn)
  have hi := frC_size htag t s (.slice fa fn fc)
  clear hkv hfb hT hk hb he hd htb hev hkn hfn
  go_enter Tryd.func11, Tryd.ntmps11
  go_wp2_with fail
  refine calls_world (fun w0 => Keep (· < w.heap.size) w w0 ∧ w0.heap[w.heap.size]? = some (.cells (frC t s tag (.slice fa fn fc)).toArray 49 (0, 0)) ∧ w.heap.size < w0.heap.size) ⟨(Keep.refl _ _).alloc _ (fun _ h => h), heap_alloc_new w _, by simp⟩ ?_
  rintro w0 ⟨k0, R0, z0⟩
  refine (alive21_walk w0 (HT.out.keep k0 HT.out.lt)).mono ?_
  rintro e w1 ⟨rfl, k1⟩
  have H1 := hid (And.intro (k0.trans (k1.mono (fun b h => Nat.lt_trans h z0))) ((k1.block _ z0).trans R0))
  have z1 : w.heap.size < w1.heap.size := Nat.lt_of_lt_of_le z0 k1.size
  have c34 : w1.cell? ⟨w.heap.size, 34, none⟩ = some (.slice fa fn fc) := (cell_at H1.out.2 34).trans (frC_34 htag _ _ _)
  clear k0 R0 k1 htag
  by_cases c1 : 300 < kn
  · have t1 : decide ((300 : Int) < (kn : Int)) = true := by simp; omega
    go_wp2_with fail
    go_ret
    exact ⟨rfl, H1.out.1⟩
  have t1 : decide ((300 : Int) < (kn : Int)) = false := by simp; omega
  by_cases c2 : 20000 < fn
  · have t2 : decide ((20000 : Int) < (fn : Int)) = true := by simp; omega
    go_wp2_with fail
    go_ret
    exact ⟨rfl, H1.out.1⟩
  have t2 : decide ((20000 : Int) < (fn : Int)) = false := by simp; omega
  have HL := hid (show key.length ≤ 300 ∧ body.length ≤ 20000 by have := HKN.out; omega)
  clear c1 c2
  go_wp2_with (refine wpList_load_row rfl 49 (.tmp 2) rfl w.heap.size rfl 49 _ (0, 0) _ H1.out.2 Tryd.underlying49 rfl hi ?_)
  clear t1 t2 c34
  cases hf : Wr.form t s body.length with
  | false =>
    have HF := hid hf
    clear hf
    refine (wput_bad t s tag fa fn fc w1 et ex HG.out.1 (by have := HKN.out; have := HL.out; omega) (by rw [HKN.out.2]; exact HF.out) (EE.out w1 H1.out.1).1 (EE.out w1 H1.out.1).2).mono ?_
    rintro e w2 ⟨rfl, k2⟩
    have z2 : w.heap.size < w2.heap.size := Nat.lt_of_lt_of_le z1 k2.size
    have R2 := (k2.block _ z1).trans H1.out.2
    have c0 : w2.cell? ⟨w.heap.size, 0, none⟩ = some (.int .i64 t) := (cell_at R2 0).trans (frC_0 _ _ _ _)
    have c1 : w2.cell? ⟨w.heap.size, 1, none⟩ = some (.int .i64 s) := (cell_at R2 1).trans (frC_1 _ _ _ _)
    have c34 : w2.cell? ⟨w.heap.size, 34, none⟩ = some (.slice fa fn fc) := (cell_at R2 34).trans (frC_34 HG.out.1 _ _ _)
    have H2 := hid (And.intro (H1.out.1.trans (k2.mono (fun b h => Nat.lt_trans h z1))) R2)
    clear k2 R2 H1 z0 z1
    go_wp2_with fail
    refine (sign_bad _ _ body t s w2 et ex _ (by have := HL.out; omega) HF.out (EE.out w2 H2.out.1).1 (EE.out w2 H2.out.1).2 (HB.out.keep H2.out.1 (fun _ h => h))).mono ?_
    rintro e w3 ⟨rfl, k3⟩
    have z3 : w.heap.size < w3.heap.size := Nat.lt_of_lt_of_le z2 k3.size
    have H3 := hid (And.intro (H2.out.1.trans (k3.mono (fun b h => Nat.lt_trans h z2))) ((k3.block _ z2).trans H2.out.2))
    have hi0 := frC_size zeros32_length 0 0 (.slice none 0 0)
    have h10 := frC_one 0 0 zeros32 (.slice none 0 0) rfl
    clear k3 H2 c0 c1 c34 z2
    go_upto_region 7 with (refine wpList_store_row rfl 49 (.tmp 7) (.tmp 38) rfl w3.heap.size (frC 0 0 zeros32 (.slice none 0 0)).toArray rfl rfl 49 _ (heap_alloc_new w3 _) hi0 rfl h10 ?_)
    refine wp_world (fun w4 => Keep (· < w3.heap.size) w3 w4 ∧ w4.heap[w3.heap.size]? = some (.cells (frC 0 0 zeros32 (.slice none 0 0)).toArray 49 (0, 0)) ∧ w3.heap.size < w4.heap.size) ⟨((Keep.refl _ _).alloc _ (fun _ h => h)).setRow _ (by simp), heap_setRow (heap_alloc_new w3 _) _, by simp⟩ ?_
    rintro w4 ⟨k4, J4, z4⟩
    have R4 := (k4.block _ z3).trans H3.out.2
    have c0 : w4.cell? ⟨w.heap.size, 0, none⟩ = some (.int .i64 t) := (cell_at R4 0).trans (frC_0 _ _ _ _)
    have c1 : w4.cell? ⟨w.heap.size, 1, none⟩ = some (.int .i64 s) := (cell_at R4 1).trans (frC_1 _ _ _ _)
    have c34 : w4.cell? ⟨w.heap.size, 34, none⟩ = some (.slice fa fn fc) := (cell_at R4 34).trans (frC_34 HG.out.1 _ _ _)
    obtain ⟨J, hJ⟩ : ∃ J, w3.heap.size = J := ⟨_, rfl⟩
    rw [hJ] at J4 z4 z3 ⊢
    have H4 := hid (And.intro (H3.out.1.trans (k4.mono (fun b (h : b < w.heap.size) => by omega))) (And.intro R4 J4))
    clear k4 R4 J4 H3 hJ h10
    go_wp2_with fail
    refine (rform_walk t s _ fn rfl w4).mono ?_
    rintro e w5 ⟨rfl, rfl⟩
    have hff : Wr.form t s fn = false := by rw [HKN.out.2]; exact HF.out
    rw [hff]
    clear hff
    go_wp2_with fail
    refine (NE.out w4 H4.out.1).mono ?_
    rintro e w5 ⟨rfl, k5⟩
    have H5 := hid (And.intro (H4.out.1.trans (k5.mono (fun b (h : b < w.heap.size) => by omega))) (And.intro ((k5.block _ (by omega)).trans H4.out.2.1) ((k5.block _ z4).trans H4.out.2.2)))
    have z5 := Nat.lt_of_lt_of_le z4 k5.size
    clear k5 H4 z4 c0 c1 c34
    go_wp2_with fail
    refine (NE.out w5 H5.out.1).mono ?_
    rintro e w6 ⟨rfl, k6⟩
    have H6 := hid (And.intro (H5.out.1.trans (k6.mono (fun b (h : b < w.heap.size) => by omega))) (And.intro ((k6.block _ (by omega)).trans H5.out.2.1) ((k6.block _ z5).trans H5.out.2.2)))
    have z6 := Nat.lt_of_lt_of_le z5 k6.size
    clear k6 H5 z5
    go_wp2_with (refine wpList_load_row_if (by rfl) 49 (.tmp 2) rfl w.heap.size rfl 49 _ (0, 0) _ H6.out.2.1 Tryd.underlying49 rfl hi ?_)
    refine (right_bad _ fa fn fc tag t s w6 et ex HG.out.1 (by have := HKN.out; have := HL.out; omega) (by rw [HKN.out.2]; exact HF.out) (EE.out w6 H6.out.1).1 (EE.out w6 H6.out.1).2).mono ?_
    rintro e w7 ⟨rfl, k7⟩
    have H7 := hid (And.intro (H6.out.1.trans (k7.mono (fun b (h : b < w.heap.size) => by omega))) ((k7.block _ z6).trans H6.out.2.2))
    clear k7 H6 z6
    go_wp2_with (refine wpList_load_row_if (by rfl) 49 (.tmp 7) rfl J rfl 49 _ (0, 0) _ H7.out.2 Tryd.underlying49 rfl hi0 ?_)
    refine (same21_walk 0 0 zeros32 [] (.slice none 0 0) (.slice none 0 0) (.slice none 0 0) w7 (fun _ => True) (fun _ => True) (fun _ => True) zeros32_length (.inr ⟨Cells.nil _ _, rfl⟩) (Cells.nil _ _) (Cells.nil _ _)).mono ?_
    rintro e w8 ⟨rfl, k8⟩
    have H8 := hid (H7.out.1.trans (k8.mono (fun b h => Nat.lt_of_lt_of_le h H7.out.1.size)))
    clear k8 H7
    go_wp2_with fail
    go_ret
    exact ⟨rfl, H8.out⟩
  | true =>
    have HF := hid hf
    obtain ⟨f1, f2, f3, f4, f5⟩ := (Wr.form_iff _ _ _).1 hf
    have HFI := hid (And.intro f1 (And.intro f2 (And.intro f3 f4)))
    clear hf f1 f2 f3 f4 f5
    refine (wput_good t s tag (.slice fa fn fc) body w1 _ HG.out.1 HF.out (HB.out.keep H1.out.1 (fun _ h => h))).mono ?_
    rintro e w2 ⟨pv, rfl, fp, k2, z2'⟩
    obtain ⟨pa, pn, pc, rfl⟩ := cells_form fp.cells
    have z2 : w.heap.size < w2.heap.size := Nat.lt_of_lt_of_le z1 z2'
    have R2 := (k2.block _ z1).trans H1.out.2
    have c0 : w2.cell? ⟨w.heap.size, 0, none⟩ = some (.int .i64 t) := (cell_at R2 0).trans (frC_0 _ _ _ _)
    have c1 : w2.cell? ⟨w.heap.size, 1, none⟩ = some (.int .i64 s) := (cell_at R2 1).trans (frC_1 _ _ _ _)
    have c34 : w2.cell? ⟨w.heap.size, 34, none⟩ = some (.slice fa fn fc) := (cell_at R2 34).trans (frC_34 HG.out.1 _ _ _)
    have H2 := hid (And.intro (H1.out.1.trans (k2.mono (fun b h => Nat.lt_trans h z1))) (And.intro R2 (fp.cells.lt.mono (q := fun b => b < w2.heap.size) (fun _ h => h.1))))
    clear k2 R2 H1 z0 z1 fp z2'
    go_wp2_with fail
    refine (sign_good _ _ key body t s w2 _ _ Hk.out Hb.out (by have := HL.out; omega) HF.out (HT.out.keep H2.out.1 HT.out.lt) (HK.out.keep H2.out.1 (fun _ h => h)) (HB.out.keep H2.out.1 (fun _ h => h))).mono ?_
    rintro e w3 ⟨sv, rfl, fs, k3, z3'⟩
    obtain ⟨sa, sn, sc, rfl⟩ := cells_form fs.cells
    obtain ⟨D, hD⟩ : ∃ D, Sha.tag key (Wr.signed t s body) = D := ⟨_, rfl⟩
    have hDl : D.length = 32 := by rw [← hD]; exact tag_length Hk.out
    have hDb : ∀ x ∈ D, x < 256 := by rw [← hD]; exact tag_lt
    rw [hD]
    have HD := hid (And.intro hD (And.intro hDl hDb))
    have z3 : w.heap.size < w3.heap.size := Nat.lt_of_lt_of_le z2 z3'
    have H3 := hid (And.intro (H2.out.1.trans (k3.mono (fun b h => Nat.lt_trans h z2))) (And.intro ((k3.block _ z2).trans H2.out.2.1) (And.intro ((H2.out.2.2.keep k3 (fun _ h => h)).mono (q := fun b => b < w3.heap.size) (fun b h => Nat.lt_of_lt_of_le h z3')) (fs.cells.lt.mono (q := fun b => b < w3.heap.size) (fun _ h => h.1)))))
    have hiD := frC_size hDl t s (.slice sa sn sc)
    have h1D := frC_one t s D (.slice sa sn sc) rfl
    have hold : 35 = (frC t s D (.slice sa sn sc)).toArray.size := by rw [List.size_toArray, frC_length hDl]
    have HO := hid hold
    clear k3 H2 c0 c1 c34 z2 z3' fs hD hDb hDl hold
    go_upto_region 7 with (refine wpList_store_row rfl 49 (.tmp 7) (.tmp 38) rfl w3.heap.size (frC t s D (.slice sa sn sc)).toArray rfl rfl 49 _ (heap_alloc_new w3 _) hiD HO.out h1D ?_)
    refine wp_world (fun w4 => Keep (· < w3.heap.size) w3 w4 ∧ w4.heap[w3.heap.size]? = some (.cells (frC t s D (.slice sa sn sc)).toArray 49 (0, 0)) ∧ w3.heap.size < w4.heap.size) ⟨((Keep.refl _ _).alloc _ (fun _ h => h)).setRow _ (by simp), heap_setRow (heap_alloc_new w3 _) _, by simp⟩ ?_
    rintro w4 ⟨k4, J4, z4⟩
    have R4 := (k4.block _ z3).trans H3.out.2.1
    have c0 : w4.cell? ⟨w.heap.size, 0, none⟩ = some (.int .i64 t) := (cell_at R4 0).trans (frC_0 _ _ _ _)
    have c1 : w4.cell? ⟨w.heap.size, 1, none⟩ = some (.int .i64 s) := (cell_at R4 1).trans (frC_1 _ _ _ _)
    have c34 : w4.cell? ⟨w.heap.size, 34, none⟩ = some (.slice fa fn fc) := (cell_at R4 34).trans (frC_34 HG.out.1 _ _ _)
    have cp4 := H3.out.2.2.1.keep k4 (fun _ h => h)
    have cs4 := H3.out.2.2.2.keep k4 (fun _ h => h)
    obtain ⟨J, hJ⟩ : ∃ J, w3.heap.size = J := ⟨_, rfl⟩
    rw [hJ] at J4 z4 z3 cp4 cs4 ⊢
    have H4 := hid (And.intro (H3.out.1.trans (k4.mono (fun b (h : b < w.heap.size) => by omega))) (And.intro R4 (And.intro J4 (And.intro cp4 cs4))))
    clear k4 R4 J4 H3 hJ h1D cp4 cs4 HO
    go_wp2_with fail
    refine (rform_walk t s _ fn rfl w4).mono ?_
    rintro e w5 ⟨rfl, rfl⟩
    have hff : Wr.form t s fn = true := by rw [HKN.out.2]; exact HF.out
    rw [hff]
    clear hff
    go_upto_region 9 with fail
    have kz : Keep (· < w4.heap.size) w4 w4.drew := (Keep.refl _ _).drew
    refine wp_region_plan [true, true, true, true, true, true, true, true, true, false, false] (.free 0 (.free 1 (.free 2 (.free 3 (.free 4 (.free 5 (.free 6 (.free 7 (.free 8 (.one 9 (.last 10)))))))))))
      (fun wx => wx.cell? ⟨w.heap.size, 0, none⟩ = some (.int .i64 t) ∧ wx.cell? ⟨w.heap.size, 1, none⟩ = some (.int .i64 s) ∧ wx.cell? ⟨w.heap.size, 34, none⟩ = some (.slice fa fn fc)) (by kernel_rfl) (by kernel_rfl) ⟨c0, c1, c34⟩ ?_
    refine plan_free rfl rfl (fun K hK => ?_); go_simp; refine hK _ ?_; clear hK K
    refine plan_held (.int .i64 t) rfl rfl (fun w0 h0 => by obtain ⟨h0, h1, h2⟩ := h0; go_simp) (fun K hK => ?_); refine hK _ ?_; clear hK K
    refine plan_free rfl rfl (fun K hK => ?_); go_simp; refine hK _ ?_; clear hK K
    refine plan_held (.int .i64 s) rfl rfl (fun w0 h0 => by obtain ⟨h0, h1, h2⟩ := h0; go_simp) (fun K hK => ?_); refine hK _ ?_; clear hK K
    iterate 3 (refine plan_free rfl rfl (fun K hK => ?_); go_simp; refine hK _ ?_; clear hK K)
    refine plan_held (.slice fa fn fc) rfl rfl (fun w0 h0 => by obtain ⟨h0, h1, h2⟩ := h0; go_simp) (fun K hK => ?_); refine hK _ ?_; clear hK K
    have bd := fun w0 => build_rframe t s (some ⟨w.heap.size, 2, none⟩) fa 32 32 fn fc w0
    refine plan_build rfl rfl 83 [(0, .tmp 74), (1, .tmp 76), (2, .tmp 78), (3, .tmp 80)] rfl (.agg (rfC t s (.slice (some ⟨w.heap.size, 2, none⟩) 32 32) (.slice fa fn fc)).toArray) (fun w0 => bd w0) (fun K hK => ?_); refine hK _ ?_; clear hK K
    clear bd
    refine plan_one rfl rfl (fun K hK => ?_); go_simp
    refine hK _ _ ⟨?_, ?_⟩
    · have ka : Keep (· < w4.heap.size) w4 (w4.drew.alloc (.cells (rfC 0 0 (.slice none 0 0) (.slice none 0 0)).toArray 83)) := ((Keep.refl _ _).drew).alloc _ (fun _ h => h)
      exact ⟨(ka.cell (x := ⟨w.heap.size, 0, none⟩) (Nat.lt_trans z3 z4)).trans c0, (ka.cell (x := ⟨w.heap.size, 1, none⟩) (Nat.lt_trans z3 z4)).trans c1, (ka.cell (x := ⟨w.heap.size, 34, none⟩) (Nat.lt_trans z3 z4)).trans c34⟩
    clear hK K
    refine plan_world (fun w5 => Keep (· < w4.heap.size) w4 w5 ∧ w5.heap[w4.heap.size]? = some (.cells (rfC 0 0 (.slice none 0 0) (.slice none 0 0)).toArray 83 (0, 0)) ∧ w4.heap.size < w5.heap.size) ⟨((Keep.refl _ _).drew).alloc _ (fun _ h => h), heap_alloc_new w4.drew _, by simp⟩ ?_
    rintro w5 ⟨k5, W5, z5⟩
    have hiW := rfC_size t s (.slice (some ⟨w.heap.size, 2, none⟩) 32 32) (.slice fa fn fc)
    refine plan_last rfl rfl (fun K hK => ?_)
    refine wp_store_row 83 (.tmp 9) (.tmp 81) rfl w4.heap.size (rfC t s (.slice (some ⟨w.heap.size, 2, none⟩) 32 32) (.slice fa fn fc)).toArray rfl rfl 83 _ W5 hiW rfl (by simp [rfC, Value.oneCell']) ?_
    refine hK _ _ ?_
    clear hK K
    go_upto_region 10 with fail
    have k45 : Keep (· < w4.heap.size) w4 (w5.setRow w4.heap.size (rfC t s (.slice (some ⟨w.heap.size, 2, none⟩) 32 32) (.slice fa fn fc)).toArray) := k5.setRow _ (Nat.lt_irrefl _)
    refine wp_world (fun w6 => Keep (· < w4.heap.size) w4 w6 ∧ w6.heap[w4.heap.size]? = some (.cells (rfC t s (.slice (some ⟨w.heap.size, 2, none⟩) 32 32) (.slice fa fn fc)).toArray 83 (0, 0)) ∧ w4.heap.size < w6.heap.size) ⟨k45, heap_setRow W5 _, Nat.lt_of_lt_of_le z5 (by simp)⟩ ?_
    clear k5 W5 z5 k45 kz
    rintro w6 ⟨k6, W6, z6⟩
    have F6 := (k6.block _ (Nat.lt_trans z3 z4)).trans H4.out.2.1
    have J6 := (k6.block _ z4).trans H4.out.2.2.1
    have d0 := (k6.cell (x := ⟨w.heap.size, 0, none⟩) (Nat.lt_trans z3 z4)).trans c0
    have d1 := (k6.cell (x := ⟨w.heap.size, 1, none⟩) (Nat.lt_trans z3 z4)).trans c1
    have d34 := (k6.cell (x := ⟨w.heap.size, 34, none⟩) (Nat.lt_trans z3 z4)).trans c34
    have cp6 := (H4.out.2.2.2.1.keep k6 (fun b h => Nat.lt_trans h z4)).mono (q := fun b => b < w4.heap.size) (fun b h => Nat.lt_trans h z4)
    have cs6 := (H4.out.2.2.2.2.keep k6 (fun b h => Nat.lt_trans h z4)).mono (q := fun b => b < w4.heap.size) (fun b h => Nat.lt_trans h z4)
    have kw6 := H4.out.1.trans (k6.mono (fun b (h : b < w.heap.size) => Nat.lt_trans h (Nat.lt_trans z3 z4)))
    obtain ⟨Wb, hWb⟩ : ∃ Wb, w4.heap.size = Wb := ⟨_, rfl⟩
    rw [hWb] at W6 z6 cp6 cs6 z4 ⊢
    have H6 := hid (And.intro kw6 (And.intro F6 (And.intro J6 (And.intro W6 (And.intro cp6 cs6)))))
    clear k6 kw6 F6 J6 W6 cp6 cs6 H4 c0 c1 c34 hWb
    have zw6 : w.heap.size < w6.heap.size := by omega
    refine wp_region_plan [false, true, true, true, true, true, true, true, false, false, false] (.free 1 (.free 2 (.free 3 (.free 4 (.free 5 (.free 6 (.free 7 (.one 0 (.one 8 (.one 9 (.last 10)))))))))))
      (fun wx => wx.cell? ⟨w.heap.size, 0, none⟩ = some (.int .i64 t) ∧ wx.cell? ⟨w.heap.size, 1, none⟩ = some (.int .i64 s) ∧ wx.cell? ⟨w.heap.size, 34, none⟩ = some (.slice fa fn fc)) (by kernel_rfl) (by kernel_rfl) ⟨d0, d1, d34⟩ ?_
    iterate 2 (refine plan_free rfl rfl (fun K hK => ?_); go_simp; refine hK _ ?_; clear hK K)
    refine plan_held (.int .i64 t) rfl rfl (fun w0 h0 => by obtain ⟨h0, h1, h2⟩ := h0; go_simp) (fun K hK => ?_); refine hK _ ?_; clear hK K
    refine plan_free rfl rfl (fun K hK => ?_); go_simp; refine hK _ ?_; clear hK K
    refine plan_held (.int .i64 s) rfl rfl (fun w0 h0 => by obtain ⟨h0, h1, h2⟩ := h0; go_simp) (fun K hK => ?_); refine hK _ ?_; clear hK K
    refine plan_free rfl rfl (fun K hK => ?_); go_simp; refine hK _ ?_; clear hK K
    refine plan_held (.slice fa fn fc) rfl rfl (fun w0 h0 => by obtain ⟨h0, h1, h2⟩ := h0; go_simp) (fun K hK => ?_); refine hK _ ?_; clear hK K
    refine plan_one rfl rfl (fun K hK => ?_); go_simp
    refine (refnew_walk w6.drew).mono ?_
    rintro e w7 ⟨rfl, k7', hW7⟩
    have k7 : Keep (· < w6.heap.size) w6 w7 := ((Keep.refl _ w6).drew).trans k7'
    refine hK _ _ ⟨⟨(k7.cell (x := ⟨w.heap.size, 0, none⟩) zw6).trans d0, (k7.cell (x := ⟨w.heap.size, 1, none⟩) zw6).trans d1, (k7.cell (x := ⟨w.heap.size, 34, none⟩) zw6).trans d34⟩, ?_⟩
    clear hK K
    obtain ⟨hb, hhb⟩ : ∃ hb, w6.drew.heap.size = hb := ⟨_, rfl⟩
    rw [hhb] at hW7 ⊢
    have zhb : w6.heap.size ≤ hb := Nat.le_of_eq hhb
    refine plan_one rfl rfl (fun K hK => ?_); go_simp
    refine (rsigned_walk t s _ body w7 _ (by have := HL.out; omega) (HB.out.keep (H6.out.1.trans (k7.mono (fun b h => Nat.lt_trans h zw6))) (fun _ h => h))).mono ?_
    rintro e w8 ⟨v8, rfl, f8, k8, z8⟩
    have z7 := k7.size
    have k68 : Keep (· < w6.heap.size) w6 w8 := k7.trans (k8.mono (fun b h => Nat.lt_of_lt_of_le h z7))
    refine hK _ _ ⟨⟨(k68.cell (x := ⟨w.heap.size, 0, none⟩) zw6).trans d0, (k68.cell (x := ⟨w.heap.size, 1, none⟩) zw6).trans d1, (k68.cell (x := ⟨w.heap.size, 34, none⟩) zw6).trans d34⟩, ?_⟩
    clear hK K
    have hW8 : WordsAt w8 hb Sha.St.new.ws Sha.turns := hW7.keep k8 (fun j _ h => h)
    refine plan_one rfl rfl (fun K hK => ?_); go_simp
    refine (reftag_walk hb _ v8 key (Wr.signed t s body) w8 _ _ (by have := HL.out; omega) (by rw [Wr.signed_length]; have := HL.out; omega) Hk.out (Wr.signed_lt t s body Hb.out) hW8 (HK.out.keep (H6.out.1.trans (k68.mono (fun b h => Nat.lt_trans h zw6))) (fun _ h => h)) f8.cells).mono ?_
    rintro e w9 ⟨rv, rfl, k9, c9⟩
    have k69 : Keep (· < w6.heap.size) w6 w9 := k68.trans (k9.mono (fun b h => Nat.lt_of_lt_of_le h k68.size))
    refine hK _ _ ⟨⟨(k69.cell (x := ⟨w.heap.size, 0, none⟩) zw6).trans d0, (k69.cell (x := ⟨w.heap.size, 1, none⟩) zw6).trans d1, (k69.cell (x := ⟨w.heap.size, 34, none⟩) zw6).trans d34⟩, ?_⟩
    clear hK K
    rw [HD.out.1] at c9
    obtain ⟨va, vn, vc, rfl⟩ := cells_form c9
    have z69 := k69.size
    have H9 := hid (And.intro (H6.out.1.trans (k69.mono (fun b h => Nat.lt_trans h zw6))) (And.intro ((k69.block _ zw6).trans H6.out.2.1) (And.intro ((k69.block _ (by omega)).trans H6.out.2.2.1) (And.intro ((k69.block _ z6).trans H6.out.2.2.2.1) (And.intro ((H6.out.2.2.2.2.1.keep k69 (fun b h => Nat.lt_trans h z6)).mono (q := fun b => b < w9.heap.size) (fun b h => by omega)) (And.intro ((H6.out.2.2.2.2.2.keep k69 (fun b h => Nat.lt_trans h z6)).mono (q := fun b => b < w9.heap.size) (fun b h => by omega)) (c9.lt.mono (q := fun b => b < w9.heap.size) (fun _ h => h.1))))))))
    have z9 : Wb < w9.heap.size := Nat.lt_of_lt_of_le z6 z69
    clear k69 k68 k7 k7' k8 k9 c9 hW7 hW8 f8 H6 z69 z7 z8 zhb hhb d0 d1 d34 zw6
    refine plan_last rfl rfl (fun K hK => ?_); go_simp
    refine hK _ _ ?_
    clear hK K
    go_wp2_with fail
    refine (get_bytes _ t s tag body w9 _ HG.out.1 HG.out.2 Hb.out HF.out H9.out.2.2.2.2.1).mono ?_
    rintro e w10 ⟨gv, rfl, fg, k10, z10'⟩
    obtain ⟨ga, gn, gc, rfl⟩ := cells_form fg.cells
    have z10 : Wb < w10.heap.size := Nat.lt_of_lt_of_le z9 z10'
    have hiG := frC_size HG.out.1 t s (.slice ga gn gc)
    have h1G := frC_one t s tag (.slice ga gn gc) rfl
    have hoG := hid (show 35 = (frC t s tag (.slice ga gn gc)).toArray.size by rw [List.size_toArray, frC_length HG.out.1])
    have H10 := hid (And.intro (H9.out.1.trans (k10.mono (fun b (h : b < w.heap.size) => by omega))) (And.intro ((k10.block _ (by omega)).trans H9.out.2.1) (And.intro ((k10.block _ (by omega)).trans H9.out.2.2.1) (And.intro ((k10.block _ z9).trans H9.out.2.2.2.1) (And.intro (H9.out.2.2.2.2.1.keep k10 (fun _ h => h)) (And.intro (H9.out.2.2.2.2.2.1.keep k10 (fun _ h => h)) (And.intro (H9.out.2.2.2.2.2.2.keep k10 (fun _ h => h)) (fg.cells.lt.mono (q := fun b => b < w10.heap.size) (fun _ h => h.1)))))))))
    clear k10 fg H9
    go_upto_region 12 with (refine wpList_store_row rfl 49 (.tmp 11) (.tmp 95) rfl w10.heap.size (frC t s tag (.slice ga gn gc)).toArray rfl rfl 49 _ (heap_alloc_new w10 _) hiG hoG.out h1G ?_)
    refine wp_world (fun w11 => Keep (· < w10.heap.size) w10 w11 ∧ w11.heap[w10.heap.size]? = some (.cells (frC t s tag (.slice ga gn gc)).toArray 49 (0, 0)) ∧ w10.heap.size < w11.heap.size) ⟨((Keep.refl _ _).alloc _ (fun _ h => h)).setRow _ (by simp), heap_setRow (heap_alloc_new w10 _) _, by simp⟩ ?_
    rintro w11 ⟨k11, G11, z11⟩
    have H11 := hid (show Keep (· < w.heap.size) w w11 ∧ w11.heap[w.heap.size]? = some (.cells (frC t s tag (.slice fa fn fc)).toArray 49 (0, 0)) ∧ w11.heap[J]? = some (.cells (frC t s D (.slice sa sn sc)).toArray 49 (0, 0)) ∧ w11.heap[Wb]? = some (.cells (rfC t s (.slice (some ⟨w.heap.size, 2, none⟩) 32 32) (.slice fa fn fc)).toArray 83 (0, 0)) ∧ Cells w11 (fun b => b < w11.heap.size) (.slice pa pn pc) (ints .u8 (Wr.bytes t s tag body)) ∧ Cells w11 (fun b => b < w11.heap.size) (.slice sa sn sc) (ints .u8 body) ∧ Cells w11 (fun b => b < w11.heap.size) (.slice va vn vc) (ints .u8 D) ∧ Cells w11 (fun b => b < w11.heap.size) (.slice ga gn gc) (ints .u8 body) from
      ⟨H10.out.1.trans (k11.mono (fun b (h : b < w.heap.size) => by omega)), (k11.block _ (by omega)).trans H10.out.2.1, (k11.block _ (by omega)).trans H10.out.2.2.1, (k11.block _ z10).trans H10.out.2.2.2.1, (H10.out.2.2.2.2.1.keep k11 (fun b h => by omega)).mono (fun b h => by omega), (H10.out.2.2.2.2.2.1.keep k11 (fun b h => by omega)).mono (fun b h => by omega), (H10.out.2.2.2.2.2.2.1.keep k11 (fun b h => by omega)).mono (fun b h => by omega), (H10.out.2.2.2.2.2.2.2.keep k11 (fun b h => h)).mono (fun b h => Nat.lt_trans h z11)⟩)
    obtain ⟨Gb, hGb⟩ : ∃ Gb, w10.heap.size = Gb := ⟨_, rfl⟩
    rw [hGb] at G11 z11 z10 ⊢
    have HR := hid G11
    clear k11 G11 H10 h1G hoG hGb z10'
    have zw : w.heap.size < w11.heap.size := by omega
    have zJ : J < w11.heap.size := by omega
    have zW : Wb < w11.heap.size := by omega
    clear z3 z4 z6 z9 z10
    obtain ⟨q, hq⟩ : ∃ q, decide (D = tag) = q := ⟨_, rfl⟩
    have eB : ((bstr (Wr.bytes t s tag body)).toList == (bstr (Wr.bytes t s tag body)).toList) = true := by simp
    have eD : ((bstr D).toList == (bstr D).toList) = true := by simp
    have eQ : ((bstr tag).toList == (bstr D).toList) = q := by
      rw [bstr_beq HG.out.2 HD.out.2.2, ← hq]
      exact decide_eq_decide.2 eq_comm
    have HQ := hid hq
    have CT := hid (show ∀ wx : World, Keep (· < w11.heap.size) w11 wx → Cells wx (fun _ => True) (.slice (some ⟨w.heap.size, 2, none⟩) 32 32) (ints .u8 tag) from fun wx k => by
      have := Cells.of_block (w := wx) (p := fun _ => True) (cur := frC t s tag (.slice fa fn fc)) (off := 2) (n := 32) (cap := 32) ((k.block _ zw).trans H11.out.2.1) trivial (by rw [frC_length HG.out.1]; decide) (Nat.le_refl _) (by decide)
      rwa [frC_tag HG.out.1] at this)
    have CD := hid (show ∀ wx : World, Keep (· < w11.heap.size) w11 wx → Cells wx (fun _ => True) (.slice (some ⟨J, 2, none⟩) 32 32) (ints .u8 D) from fun wx k => by
      have := Cells.of_block (w := wx) (p := fun _ => True) (cur := frC t s D (.slice sa sn sc)) (off := 2) (n := 32) (cap := 32) ((k.block _ zJ).trans H11.out.2.2.1) trivial (by rw [frC_length HD.out.2.1]; decide) (Nat.le_refl _) (by decide)
      rwa [frC_tag HD.out.2.1] at this)
    have hiW := rfC_size t s (.slice (some ⟨w.heap.size, 2, none⟩) 32 32) (.slice fa fn fc)
    have KZ := hid (show Keep (· < w11.heap.size) w11 w11.drew from (Keep.refl _ _).drew)
    clear hq
    refine wp_region_plan [true, true, true, true, true, true, true, true, true, true, true, true, true, true, false, false, true, true, true, true, true, false, true, true, true, true, true, true, true, true, true, true, true, true, false, true, true, true, true, false, true, true, true, true, true, true, true, true, false] (.free 0 (.free 1 (.free 2 (.free 3 (.free 4 (.free 5 (.free 6 (.free 7 (.free 8 (.free 9 (.free 10 (.free 11 (.free 12 (.free 13 (.one 14 (.one 15 (.free 16 (.free 17 (.free 18 (.free 19 (.free 20 (.one 21 (.free 22 (.free 23 (.free 24 (.free 25 (.free 26 (.free 27 (.free 28 (.free 29 (.free 30 (.free 31 (.free 32 (.free 33 (.one 34 (.free 35 (.free 36 (.free 37 (.free 38 (.free 40 (.free 41 (.free 42 (.free 43 (.free 44 (.free 45 (.one 39 (.free 46 (.free 47 (.last 48)))))))))))))))))))))))))))))))))))))))))))))))))
      (fun wx => Keep (· < w11.heap.size) w11 wx) (by kernel_rfl) (by kernel_rfl) KZ.out ?_
    iterate 12 (refine plan_free rfl (by rfl) (fun K hK => ?_); go_simp; refine hK _ ?_; clear hK K)
    refine plan_held (.string (bstr (Wr.bytes t s tag body))) rfl (by rfl) (fun w0 h0 => by have := conv_bytes21 w0 (H11.out.2.2.2.2.1.keep h0 (fun _ h => h)); go_simp) (fun K hK => ?_); refine hK _ ?_; clear hK K
    refine plan_load rfl (by rfl) 83 (.tmp 9) rfl Wb 0 rfl (rfC t s (.slice (some ⟨w.heap.size, 2, none⟩) 32 32) (.slice fa fn fc)) _ (fun wx h => range_whole ((h.block _ zW).trans H11.out.2.2.2.1)) Tryd.underlying83 rfl (by simpa using hiW) (fun K hK => ?_); refine hK _ ?_; clear hK K
    refine plan_one rfl (by rfl) (fun K hK => ?_); go_simp
    refine (rbytes_walk t s _ _ tag body w11.drew _ _ HG.out.1 (by have := HL.out; omega) (CT.out _ KZ.out) (HB.out.keep (H11.out.1.drewN 1) (fun _ h => h))).mono ?_
    rintro e w12 ⟨bv, rfl, fb, k12', z12'⟩
    obtain ⟨ba, bn, bc, rfl⟩ := cells_form fb.cells
    have k12 : Keep (· < w11.heap.size) w11 w12 := KZ.out.trans k12'
    refine hK _ _ ⟨k12, ?_⟩
    clear hK K
    refine plan_one rfl (by rfl) (fun K hK => ?_)
    have cvb := conv_bytes21 w12 fb.cells
    go_simp
    refine hK _ _ ⟨k12, ?_⟩
    clear hK K cvb fb k12' z12'
    iterate 3 (refine plan_free rfl (by rfl) (fun K hK => ?_); go_simp; refine hK _ ?_; clear hK K)
    refine plan_load rfl (by rfl) 49 (.tmp 11) rfl Gb 0 rfl (frC t s tag (.slice ga gn gc)) _ (fun wx h => range_whole ((h.block _ z11).trans HR.out)) Tryd.underlying49 rfl (by simpa using hiG) (fun K hK => ?_); refine hK _ ?_; clear hK K
    refine plan_load rfl (by rfl) 83 (.tmp 9) rfl Wb 0 rfl (rfC t s (.slice (some ⟨w.heap.size, 2, none⟩) 32 32) (.slice fa fn fc)) _ (fun wx h => range_whole ((h.block _ zW).trans H11.out.2.2.2.1)) Tryd.underlying83 rfl (by simpa using hiW) (fun K hK => ?_); refine hK _ ?_; clear hK K
    refine plan_one rfl (by rfl) (fun K hK => ?_); go_simp
    refine (same21_walk t s tag body _ _ _ w12 _ _ _ HG.out.1 (.inl (CT.out _ k12)) (H11.out.2.2.2.2.2.2.2.keep k12 (fun _ h => h)) (HB.out.keep (H11.out.1.trans (k12.mono (fun b h => Nat.lt_trans h zw))) (fun _ h => h))).mono ?_
    rintro e w13 ⟨rfl, k13'⟩
    have k13 : Keep (· < w11.heap.size) w11 w13 := k12.trans (k13'.mono (fun b h => Nat.lt_of_lt_of_le h k12.size))
    refine hK _ _ ⟨k13, ?_⟩
    clear hK K k13' k12
    iterate 4 (refine plan_free rfl (by rfl) (fun K hK => ?_); go_simp; refine hK _ ?_; clear hK K)
    refine plan_held (.string (bstr D)) rfl (by rfl) (fun w0 h0 => by have := conv_bytes21 w0 (CD.out w0 h0); go_simp) (fun K hK => ?_); refine hK _ ?_; clear hK K
    refine plan_free rfl (by rfl) (fun K hK => ?_); go_simp; refine hK _ ?_; clear hK K
    refine plan_held (.string (bstr D)) rfl (by rfl) (fun w0 h0 => by have := conv_bytes21 w0 (H11.out.2.2.2.2.2.2.1.keep h0 (fun _ h => h)); go_simp) (fun K hK => ?_); refine hK _ ?_; clear hK K
    iterate 4 (refine plan_free rfl (by rfl) (fun K hK => ?_); go_simp; refine hK _ ?_; clear hK K)
    refine plan_load rfl (by rfl) 49 (.tmp 7) rfl J 0 rfl (frC t s D (.slice sa sn sc)) _ (fun wx h => range_whole ((h.block _ zJ).trans H11.out.2.2.1)) Tryd.underlying49 rfl (by simpa using hiD) (fun K hK => ?_); refine hK _ ?_; clear hK K
    refine plan_one rfl (by rfl) (fun K hK => ?_); go_simp
    have kw13 := H11.out.1.trans (k13.mono (fun b (h : b < w.heap.size) => Nat.lt_trans h zw))
    refine (right_good _ _ key D body t s w13 _ _ Hk.out Hb.out HD.out.2.2 HD.out.2.1 (by have := HL.out; omega) HF.out (HT.out.keep kw13 HT.out.lt) (HK.out.keep kw13 (fun _ h => h)) (H11.out.2.2.2.2.2.1.keep k13 (fun _ h => h))).mono ?_
    rintro e w14 ⟨rfl, k14'⟩
    have e1 : decide (Sha.tag key (Wr.signed t s body) = D) = true := by rw [HD.out.1]; simp
    rw [e1]
    clear e1 kw13
    have k14 : Keep (· < w11.heap.size) w11 w14 := k13.trans (k14'.mono (fun b h => Nat.lt_of_lt_of_le h k13.size))
    refine hK _ _ ⟨k14, ?_⟩
    clear hK K k14' k13
    iterate 3 (refine plan_free rfl (by rfl) (fun K hK => ?_); go_simp; refine hK _ ?_; clear hK K)
    refine plan_load rfl (by rfl) 49 (.tmp 2) rfl w.heap.size 0 rfl (frC t s tag (.slice fa fn fc)) _ (fun wx h => range_whole ((h.block _ zw).trans H11.out.2.1)) Tryd.underlying49 rfl (by simpa using hi) (fun K hK => ?_); refine hK _ ?_; clear hK K
    iterate 2 (refine plan_free rfl (by rfl) (fun K hK => ?_); go_simp; refine hK _ ?_; clear hK K)
    refine plan_held (.string (bstr tag)) rfl (by rfl) (fun w0 h0 => by have := conv_bytes21 w0 (CT.out w0 h0); go_simp) (fun K hK => ?_); refine hK _ ?_; clear hK K
    refine plan_free rfl (by rfl) (fun K hK => ?_); go_simp; refine hK _ ?_; clear hK K
    refine plan_held (.string (bstr D)) rfl (by rfl) (fun w0 h0 => by have := conv_bytes21 w0 (H11.out.2.2.2.2.2.2.1.keep h0 (fun _ h => h)); go_simp) (fun K hK => ?_); refine hK _ ?_; clear hK K
    refine plan_free rfl (by rfl) (fun K hK => ?_); go_simp; refine hK _ ?_; clear hK K
    refine plan_one rfl (by rfl) (fun K hK => ?_); go_simp
    have kw14 := H11.out.1.trans (k14.mono (fun b (h : b < w.heap.size) => Nat.lt_trans h zw))
    refine (right_good _ _ key tag body t s w14 _ _ Hk.out Hb.out HG.out.2 HG.out.1 (by have := HL.out; omega) HF.out (HT.out.keep kw14 HT.out.lt) (HK.out.keep kw14 (fun _ h => h)) (HB.out.keep kw14 (fun _ h => h))).mono ?_
    rintro e w15 ⟨rfl, k15'⟩
    have e1 : decide (Sha.tag key (Wr.signed t s body) = tag) = q := by rw [HD.out.1]; exact HQ.out
    rw [e1]
    clear e1 kw14
    have k15 : Keep (· < w11.heap.size) w11 w15 := k14.trans (k15'.mono (fun b h => Nat.lt_of_lt_of_le h k14.size))
    refine hK _ _ ⟨k15, ?_⟩
    have K15 := hid (H11.out.1.trans (k15.mono (fun b (h : b < w.heap.size) => Nat.lt_trans h zw)))
    clear hK K k15' k14 k15
    iterate 2 (refine plan_free rfl (by rfl) (fun K hK => ?_); go_simp; refine hK _ ?_; clear hK K)
    refine plan_last rfl (by rfl) (fun K hK => ?_); go_simp
    refine hK _ _ ?_
    clear hK K
    go_wp2_with fail
    go_ret
    exact ⟨rfl, K15.out⟩
end Go.Proofs.YtnpneippahdigaaDoor
