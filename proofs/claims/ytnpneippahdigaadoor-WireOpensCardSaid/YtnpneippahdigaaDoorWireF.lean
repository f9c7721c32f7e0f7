/-
  Step by step: 'Get' of package wire.
-/
import Derived.Test.YtnpneippahdigaaDoorWireE
import Derived.Test.YtnpneippahdigaaDoorTxt4
import Derived.Laws.Cover3
namespace Go.Proofs.YtnpneippahdigaaDoor
open Go.RowKit Go.Proofs.Mem Go.Proofs.Txt

theorem frC_zero : (frC 0 0 zeros32 (.slice none 0 0)).length = 35 := frC_length zeros32_length 0 0 _

set_option maxRecDepth 100000 in
set_option maxHeartbeats 1000000 in
theorem get_bad (v : Value) (b : List Nat) (ev : Value) (w : World) (p : Nat → Prop) (hx : ∀ x ∈ b, x < 256) (hv : Cells w p v (ints .u8 b)) (hf : Wr.isFrame b = false) (he : w.cell? ⟨11, 0, none⟩ = some ev) (hl : 11 < w.heap.size) :
    Calls Tryd.prog 36 #[v] w fun e w' => e = .returned (.tuple #[.agg (frC 0 0 zeros32 (.slice none 0 0)).toArray, ev]) ∧ Keep (· < w.heap.size) w w' := by
  have HE := hid he
  have HX := hid hx
  have hle := hv.len_le
  rw [ints_length] at hle
  have HV := hid (hv.lt.mono (q := fun b => b < w.heap.size) (fun _ h => h.1))
  have hi := frC_size zeros32_length 0 0 (.slice none 0 0)
  have h1 := frC_one 0 0 zeros32 (.slice none 0 0) rfl
  have hl35 := hid (show 35 = (frC 0 0 zeros32 (.slice none 0 0)).toArray.size by rw [List.size_toArray, frC_zero])
  have hcase : b.length < 41 ∨ (41 ≤ b.length ∧ 16384 < b.length) ∨ (41 ≤ b.length ∧ b.length ≤ 16384 ∧ 1099511627776 < Wr.seqOf b) := by
    by_cases h : 41 ≤ b.length ∧ b.length ≤ 16384 ∧ Wr.seqOf b ≤ 1099511627776
    · rw [(Wr.isFrame_iff b).2 h] at hf; cases hf
    · omega
  have tail : True := trivial
  clear he hx hv hf tail
  have ez : (Value.agg (frC 0 0 zeros32 (.slice none 0 0)).toArray).cells.size = 35 := by rw [Value.cells, List.size_toArray, frC_zero]
  rcases hcase with hc | hc | ⟨hc1, hc2, hc3⟩
  case' inl =>
    obtain ⟨a, n, c, rfl⟩ := cells_form HV.out
    have hn : n = b.length := by
      obtain ⟨_, _, _, e, h1, _⟩ := HV.out
      injection e with _ e2 _
      rw [e2, h1, ints_length]
    have t1 : decide ((n : Int) < 41) = true := by simp; omega
    clear hn hc ez
    go_enter Tryd.func36, Tryd.ntmps36
    go_upto_region 2 with fail
  case' inr.inl =>
    obtain ⟨a, n, c, rfl⟩ := cells_form HV.out
    have hn : n = b.length := by
      obtain ⟨_, _, _, e, h1, _⟩ := HV.out
      injection e with _ e2 _
      rw [e2, h1, ints_length]
    have t1 : decide ((n : Int) < 41) = false := by simp; omega
    have t2 : decide ((16384 : Int) < (n : Int)) = true := by simp; omega
    clear hn hc ez
    go_enter Tryd.func36, Tryd.ntmps36
    go_upto_region 2 with fail
  case' inr.inr =>
    obtain ⟨blk, off, c, rfl, hnc, hcm, hblk, hcell⟩ := HV.out.open_ (by omega)
    obtain ⟨n, hn⟩ : ∃ n, b.length = n := ⟨_, rfl⟩
    have HC := hid (And.intro hcell hn)
    rw [hn] at hc1 hc2 hnc HV ⊢
    have t1 : decide ((n : Int) < 41) = false := by simp; omega
    have t2 : decide ((16384 : Int) < (n : Int)) = false := by simp; omega
    have c1 : (9 : Int) ≤ (c : Int) := by omega
    have hsl := Wr.seqOf_lt b HX.out
    obtain ⟨z, hz⟩ : ∃ z, Wr.i64 (Wr.seqOf b) = z := ⟨_, rfl⟩
    have hzc : z < 0 ∨ (0 ≤ z ∧ 1099511627776 < z) := by rw [← hz]; unfold Wr.i64; split <;> omega
    have HZ := hid hz
    have kz0 : Keep (· < w.heap.size) w w := Keep.refl _ _
    clear hn hcell hz hc3 ez
    go_enter Tryd.func36, Tryd.ntmps36
    have ofc : ∀ w0 : World, Keep (· < w.heap.size) w w0 → Calls Tryd.prog 73 #[.slice (some ⟨blk, off + 1, none⟩) 8 (c - 1)] w0 fun e w' => e = .returned (.int .i64 z) ∧ w0 = w' := fun w0 k0 => by
      have h8 := cells_sub (w := w0) (p := fun _ => True) (blk := blk) (off := off) (cs := ints .u8 b) trivial (fun i hi => (k0.cell (x := ⟨blk, off + i, none⟩) hblk).trans (HC.out.1 i hi)) 1 8 (c - 1) (by rw [ints_length, HC.out.2]; omega) (by omega) (by omega)
      rw [ints_drop, ints_take] at h8
      have := wof_walk _ _ w0 _ (fun x hx => HX.out x (List.mem_of_mem_drop (List.mem_of_mem_take hx))) h8
      rw [← HZ.out]
      exact this
    have OF := hid ofc
    clear ofc
    go_wp2_with fail
    refine (OF.out _ ((Keep.refl _ _).alloc _ (fun _ h => h))).mono ?_
    rintro e w1 ⟨rfl, rfl⟩
    rcases hzc with hz0 | ⟨hz0, hz1⟩
    case' inl =>
      have t3 : decide (z < 0) = true := by simp; omega
      clear hz0
      go_upto_region 2 with fail
    case' inr =>
      have t3 : decide (z < 0) = false := by simp; omega
      have t4 : decide ((1099511627776 : Int) < z) = true := by simp; omega
      go_wp2_with fail
      refine (OF.out _ ((Keep.refl _ _).alloc _ (fun _ h => h))).mono ?_
      rintro e w2 ⟨rfl, rfl⟩
      clear hz0 hz1
      go_upto_region 2 with fail
  all_goals
    refine wp_world (fun w1 => Keep (· < w.heap.size) w w1 ∧ w1.heap[w.heap.size]? = some (.cells (frC 0 0 zeros32 (.slice none 0 0)).toArray 49 (0, 0)) ∧ w.heap.size < w1.heap.size) ⟨(Keep.refl _ _).alloc _ (fun _ h => h), heap_alloc_new w _, by simp⟩ ?_
    rintro w1 ⟨k1, R1, z1⟩
    have H1 := hid (And.intro k1 R1)
    have ce := (k1.cell (x := ⟨11, 0, none⟩) hl).trans HE.out
    clear k1 R1
    refine wp_region_plan [true, true, false, false] (.free 0 (.free 1 (.one 2 (.last 3)))) (fun wx => wx.cell? ⟨11, 0, none⟩ = some ev) (by kernel_rfl) (by kernel_rfl) ce ?_
    clear ce
    refine plan_free rfl rfl (fun K hK => ?_); go_simp; refine hK _ ?_; clear hK K
    refine plan_held ev rfl rfl (fun w0 h0 => by go_simp) (fun K hK => ?_); refine hK _ ?_; clear hK K
    refine plan_one rfl rfl (fun K hK => ?_)
    refine wp_store_row 49 (.tmp 2) (.tmp 24) rfl w.heap.size (frC 0 0 zeros32 (.slice none 0 0)).toArray rfl rfl 49 _ (show w1.drew.heap[w.heap.size]? = _ from H1.out.2) hi rfl h1 ?_
    have k2 := (H1.out.1.drewN 1).setRow (b := w.heap.size) (frC 0 0 zeros32 (.slice none 0 0)).toArray (Nat.lt_irrefl _)
    have R2 := heap_setRow (show w1.drew.heap[w.heap.size]? = _ from H1.out.2) (frC 0 0 zeros32 (.slice none 0 0)).toArray
    refine hK _ _ ⟨(k2.cell (x := ⟨_, 0, none⟩) hl).trans HE.out, ?_⟩
    clear hK K
    have H2 := hid (And.intro k2 R2)
    refine plan_last rfl rfl (fun K hK => ?_); go_simp
    refine hK _ _ ?_
    clear hK K k2 R2
    go_wp2_with fail
    refine bodyPost_ret (v := .tuple #[.agg (frC 0 0 zeros32 (.slice none 0 0)).toArray, ev]) (results_cell_row_tmp rfl _ _ w.heap.size 49 _ (0, 0) _ rfl H2.out.2 Tryd.underlying49 rfl hi _ rfl) rfl ?_
    exact ⟨rfl, H2.out.1⟩

set_option maxRecDepth 100000 in
set_option maxHeartbeats 1000000 in
theorem get_good (v : Value) (b : List Nat) (w : World) (p : Nat → Prop) (hx : ∀ x ∈ b, x < 256) (hv : Cells w p v (ints .u8 b)) (hf : Wr.isFrame b = true) :
    Calls Tryd.prog 36 #[v] w fun e w' => ∃ b', e = .returned (.tuple #[.agg (frC (b.getD 0 0 : Nat) (Wr.seqOf b : Nat) ((b.drop 9).take 32) b').toArray, .nilIface]) ∧ Fresh w' w.heap.size b' (ints .u8 (b.drop 41)) ∧ Keep (· < w.heap.size) w w' ∧ w.heap.size ≤ w'.heap.size := by
  obtain ⟨hc1, hc2, hc3⟩ := (Wr.isFrame_iff b).1 hf
  have HX := hid hx
  have HV := hid (hv.lt.mono (q := fun b => b < w.heap.size) (fun _ h => h.1))
  clear hx hv hf
  obtain ⟨blk, off, c, rfl, hnc, hcm, hblk, hcell⟩ := HV.out.open_ (by omega)
  obtain ⟨n, hn⟩ : ∃ n, b.length = n := ⟨_, rfl⟩
  obtain ⟨sq, hsq⟩ : ∃ sq, Wr.seqOf b = sq := ⟨_, rfl⟩
  obtain ⟨x0, hx0⟩ : ∃ x, b.getD 0 0 = x := ⟨_, rfl⟩
  obtain ⟨tag, htag⟩ : ∃ t, (b.drop 9).take 32 = t := ⟨_, rfl⟩
  have htl : tag.length = 32 := by rw [← htag, List.length_take, List.length_drop]; omega
  have c00 : w.cell? ⟨blk, off, none⟩ = some (.int .u8 (x0 : Int)) := by
    have := hcell 0 (by rw [ints_length]; omega)
    rwa [ints_get _ _ _ (by omega), hx0, Nat.add_zero] at this
  have HC := hid (And.intro hcell (And.intro hn (And.intro hsq (And.intro hx0 htag))))
  rw [hn] at hc1 hc2 hnc HV ⊢
  rw [hsq] at hc3
  have t1 : decide ((n : Int) < 41) = false := by simp; omega
  have t2 : decide ((16384 : Int) < (n : Int)) = false := by simp; omega
  have t3 : decide ((sq : Int) < 0) = false := by simp
  have t4 : decide ((1099511627776 : Int) < (sq : Int)) = false := by simp; omega
  have hx256 : x0 < 256 := by rw [← hx0, List.getD_eq_getElem?_getD, List.getElem?_eq_getElem (by omega)]; exact HX.out _ (List.getElem_mem _)
  have ew : IntKind.i64.wrap (x0 : Int) = (x0 : Int) := IntWalk.i64_in _ (by omega)
  have n0 : 0 < n := by omega
  have q1 : ¬ c = 1 := by omega
  have q9 : ¬ c = 9 := by omega
  have c1 : (9 : Int) ≤ (c : Int) := by omega
  have c2 : (41 : Int) ≤ (c : Int) := by omega
  have c3 : (41 : Int) ≤ (n : Int) := by omega
  have OF := hid (show ∀ w0 : World, Keep (· < w.heap.size) w w0 → Calls Tryd.prog 73 #[.slice (some ⟨blk, off + 1, none⟩) 8 (c - 1)] w0 fun e w' => e = .returned (.int .i64 (sq : Int)) ∧ w0 = w' from fun w0 k0 => by
    have h8 := cells_sub (w := w0) (p := fun _ => True) (blk := blk) (off := off) (cs := ints .u8 b) trivial (fun i hi => (k0.cell (x := ⟨blk, off + i, none⟩) hblk).trans (HC.out.1 i hi)) 1 8 (c - 1) (by rw [ints_length, HC.out.2.1]; omega) (by omega) (by omega)
    rw [ints_drop, ints_take] at h8
    have := wof_walk _ _ w0 _ (fun x hx => HX.out x (List.mem_of_mem_drop (List.mem_of_mem_take hx))) h8
    have e2 : Wr.i64 (Drw.num8 ((b.drop 1).take 8)) = (sq : Int) := by
      have e3 : Drw.num8 ((b.drop 1).take 8) = sq := HC.out.2.2.1
      rw [e3]; exact Wr.i64_small sq (by omega)
    rw [e2] at this
    exact this)
  clear hn hcell hsq hx0 htag
  go_enter Tryd.func36, Tryd.ntmps36
  go_wp2_with fail
  refine (OF.out _ ((Keep.refl _ _).alloc _ (fun _ h => h))).mono ?_
  rintro e w1 ⟨rfl, rfl⟩
  go_wp2_with fail
  refine (OF.out _ ((Keep.refl _ _).alloc _ (fun _ h => h))).mono ?_
  rintro e w1 ⟨rfl, rfl⟩
  go_upto_region 3 with fail
  refine wp_world (fun w1 => Keep (· < w.heap.size) w w1 ∧ w1.heap[w.heap.size]? = some (.cells (frC 0 0 zeros32 (.slice none 0 0)).toArray 49 (0, 0)) ∧ w.heap.size < w1.heap.size) ⟨(Keep.refl _ _).alloc _ (fun _ h => h), heap_alloc_new w _, by simp⟩ ?_
  rintro w1 ⟨k1, R1, z1⟩
  have H1 := hid (And.intro k1 R1)
  have c0 := (k1.cell (x := ⟨blk, off, none⟩) hblk).trans c00
  have rt : w1.rangeAt blk (off + 9) (ints .u8 tag) := by
    intro j x hj
    have hj32 : j < 32 := by
      have := (List.getElem?_eq_some_iff.1 hj).1
      rwa [ints_length, htl] at this
    have := (k1.cell (x := ⟨blk, off + (9 + j), none⟩) hblk).trans (HC.out.1 (9 + j) (by rw [ints_length, HC.out.2.1]; omega))
    rw [Nat.add_assoc, this, ← hj, ← HC.out.2.2.2.2, ← ints_take, ← ints_drop, List.getElem?_take, if_pos hj32, List.getElem?_drop]
  clear k1 R1 c00
  refine wp_region_plan [true, true, true, true, true, true, false, true, true, true, true, true, true, false, true, false, false] (.free 0 (.free 1 (.free 2 (.free 3 (.free 4 (.free 5 (.free 7 (.free 8 (.free 9 (.free 10 (.free 11 (.free 12 (.one 6 (.one 13 (.free 14 (.one 15 (.last 16)))))))))))))))))
    (fun wx => wx.cell? ⟨blk, off, none⟩ = some (.int .u8 (x0 : Int)) ∧ wx.rangeAt blk (off + 9) (ints .u8 tag)) (by kernel_rfl) (by kernel_rfl) ⟨c0, rt⟩ ?_
  iterate 2 (refine plan_free rfl rfl (fun K hK => ?_); go_simp; refine hK _ ?_; clear hK K)
  refine plan_held (.int .u8 (x0 : Int)) rfl rfl (fun w0 h0 => by obtain ⟨h0, _⟩ := h0; go_simp) (fun K hK => ?_); refine hK _ ?_; clear hK K
  iterate 5 (refine plan_free rfl rfl (fun K hK => ?_); go_simp; refine hK _ ?_; clear hK K)
  have ar := fun (w0 : World) (a : Option Addr) (cp : Nat) => run_arrayAt (P := Tryd.prog) (w := w0) 47 5 32 a 32 cp Tryd.underlying47 (Nat.le_refl _)
  refine plan_free rfl rfl (fun K hK => ?_); go_simp; refine hK _ ?_; clear hK K
  clear ar
  refine plan_load rfl rfl 47 (.tmp 35) rfl blk (off + 9) rfl (ints .u8 tag) _ (fun wx h => h.2) Tryd.underlying47 rfl (by have := info32 tag htl; simpa using this) (fun K hK => ?_)
  refine hK _ ?_
  clear hK K
  iterate 2 (refine plan_free rfl rfl (fun K hK => ?_); go_simp; refine hK _ ?_; clear hK K)
  obtain ⟨ab, hab⟩ : ∃ ab, (if c = 41 then some (⟨blk, off, none⟩ : Addr) else some ⟨blk, off + 41, none⟩) = ab := ⟨_, rfl⟩
  rw [hab]
  have cb : Cells w1 (fun b => b < w.heap.size) (.slice ab (n - 41) (c - 41)) (ints .u8 (b.drop 41)) := by
    rw [← hab]
    split
    · have h0 : b.drop 41 = [] := List.drop_eq_nil_of_le (by rw [HC.out.2.1]; omega)
      rw [h0, show n - 41 = 0 by omega]
      exact ⟨_, _, _, rfl, rfl, Nat.zero_le _, by unfold maxLen; omega, fun h => absurd h (by decide)⟩
    · have := cells_sub (w := w1) (p := fun b => b < w.heap.size) (blk := blk) (off := off) (cs := ints .u8 b) hblk (fun i hi => (H1.out.1.cell (x := ⟨blk, off + i, none⟩) hblk).trans (HC.out.1 i hi)) 41 (n - 41) (c - 41) (by rw [ints_length, HC.out.2.1]; omega) (by omega) (by omega)
      rwa [ints_drop, ints_take, List.take_of_length_le (by rw [List.length_drop, HC.out.2.1]; exact Nat.le_refl _)] at this
  have CB := hid cb
  clear hab cb
  refine plan_one rfl rfl (fun K hK => ?_); go_simp
  refine (OF.out _ (H1.out.1.drewN 1)).mono ?_
  rintro e w2 ⟨rfl, rfl⟩
  refine hK _ _ ⟨⟨c0, rt⟩, ?_⟩
  clear hK K
  refine plan_one rfl rfl (fun K hK => ?_); go_simp
  refine (clone_walk _ (b.drop 41) w1.drew _ (by rw [List.length_drop, HC.out.2.1]; omega) (show Cells w1.drew _ _ _ from CB.out)).mono ?_
  rintro e w2 ⟨b', rfl, fb, k2, z2⟩
  obtain ⟨ba, bn, bc, rfl⟩ := cells_form fb.cells
  have k12 : Keep (· < w1.heap.size) w1 w2 := ((Keep.refl _ w1).drew).trans k2
  have c0' := (k12.cell (x := ⟨blk, off, none⟩) (Nat.lt_trans hblk z1)).trans c0
  have rt' : w2.rangeAt blk (off + 9) (ints .u8 tag) := fun j x hj => (k12.cell (x := ⟨blk, off + 9 + j, none⟩) (Nat.lt_trans hblk z1)).trans (rt j x hj)
  have H2 := hid (And.intro (H1.out.1.trans (k12.mono (fun b h => Nat.lt_trans h z1))) (And.intro ((k12.block _ z1).trans H1.out.2) fb))
  have z12 : w1.heap.size ≤ w2.heap.size := z2
  refine hK _ _ ⟨⟨c0', rt'⟩, ?_⟩
  clear hK K k2 k12 fb c0 rt z2
  have bd := hid (build_frame4 (x0 : Int) (sq : Int) tag htl (.slice ba bn bc) rfl)
  refine plan_build rfl rfl 49 [(0, .tmp 29), (1, .tmp 32), (2, .tmp 36), (3, .tmp 39)] rfl (.agg (frC (x0 : Int) (sq : Int) tag (.slice ba bn bc)).toArray) (fun w0 => bd.out w0) (fun K hK => ?_); refine hK _ ?_; clear hK K
  have hi := frC_size htl (x0 : Int) (sq : Int) (.slice ba bn bc)
  have h1 := frC_one (x0 : Int) (sq : Int) tag (.slice ba bn bc) rfl
  have hl : (frC 0 0 zeros32 (.slice none 0 0)).toArray.size = (frC (x0 : Int) (sq : Int) tag (.slice ba bn bc)).toArray.size := by rw [List.size_toArray, List.size_toArray, frC_zero, frC_length htl]
  refine plan_one rfl rfl (fun K hK => ?_)
  refine wp_store_row 49 (.tmp 2) (.tmp 40) rfl w.heap.size (frC (x0 : Int) (sq : Int) tag (.slice ba bn bc)).toArray rfl rfl 49 _ H2.out.2.1 hi hl h1 ?_
  have k3 : Keep (fun b => b ≠ w.heap.size) w2 (w2.setRow w.heap.size (frC (x0 : Int) (sq : Int) tag (.slice ba bn bc)).toArray) := (Keep.refl _ _).setRow _ (fun h => h rfl)
  have R3 := heap_setRow H2.out.2.1 (frC (x0 : Int) (sq : Int) tag (.slice ba bn bc)).toArray
  refine hK _ _ ⟨⟨(k3.cell (x := ⟨blk, off, none⟩) (Nat.ne_of_lt hblk)).trans c0', fun j x hj => (k3.cell (x := ⟨blk, off + 9 + j, none⟩) (Nat.ne_of_lt hblk)).trans (rt' j x hj)⟩, ?_⟩
  clear hK K
  have r3 : Row (w2.setRow w.heap.size (frC (x0 : Int) (sq : Int) tag (.slice ba bn bc)).toArray) 5 (.slice ba bn bc) (ints .u8 (b.drop 41)) := H2.out.2.2.row.keep k3 (fun k hk => by have := H2.out.2.2.own k hk; have h5 : w1.drew.heap.size = w1.heap.size := rfl; omega)
  have H3 := hid (And.intro (H2.out.1.trans (k3.mono (fun b (h : b < w.heap.size) => Nat.ne_of_lt h))) (And.intro R3 (And.intro r3 k3.size)))
  refine plan_last rfl rfl (fun K hK => ?_); go_simp
  refine hK _ _ ?_
  clear hK K k3 R3 r3
  go_wp2_with fail
  refine bodyPost_ret (v := .tuple #[.agg (frC (x0 : Int) (sq : Int) tag (.slice ba bn bc)).toArray, .nilIface]) (results_cell_row_tmp rfl _ _ w.heap.size 49 _ (0, 0) _ rfl H3.out.2.1 Tryd.underlying49 rfl hi _ rfl) rfl ?_
  refine ⟨.slice ba bn bc, ?_, ⟨H3.out.2.2.1, fun k hk => ?_⟩, H3.out.1, ?_⟩
  · rw [HC.out.2.2.1, HC.out.2.2.2.1, HC.out.2.2.2.2]
  · have := H2.out.2.2.own k hk
    have h5 : w1.drew.heap.size = w1.heap.size := rfl
    omega
  · have := H3.out.2.2.2
    omega
end Go.Proofs.YtnpneippahdigaaDoor
