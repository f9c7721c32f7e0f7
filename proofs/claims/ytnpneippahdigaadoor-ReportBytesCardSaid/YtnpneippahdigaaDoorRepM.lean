/-
  Step by step: 'Read' of the reference of layer 20.
-/
import Derived.Test.YtnpneippahdigaaDoorRepI
import Derived.Test.YtnpneippahdigaaDoorRepF
import Derived.Test.YtnpneippahdigaaDoorRepL
namespace Go.Proofs.Rp
theorem val_one (b : List Nat) (i : Nat) (hi : i < b.length) (hx : b.getD i 0 < 256) : val b i 1 = ((b.getD i 0 : Nat) : Int) := by
  have hg : b[i]? = some (b.getD i 0) := by rw [List.getD_eq_getElem?_getD, List.getElem?_eq_getElem hi]; rfl
  have hd : (b.drop i).take 1 = [b.getD i 0] := by
    rw [List.drop_eq_getElem_cons hi, List.take_succ_cons, List.take_zero]
    congr 1
    rw [List.getElem?_eq_getElem hi] at hg
    exact Option.some.inj hg
  unfold val
  rw [hd]
  have e : Drw.num8 [b.getD i 0] = b.getD i 0 := by
    simp [Drw.num8]
  rw [e, Wr.i64_small _ (by omega)]
end Go.Proofs.Rp
namespace Go.Proofs.YtnpneippahdigaaDoor
open Go.RowKit Go.Proofs.Mem Go.Proofs.Txt

/-- what is read of bytes. -/
def getAny (b : List Nat) : Option Rp.Rep := if b.length < 21 ∨ b.length ≠ 21 + 11 * cntOf b then none else getRep b
def GotRead (o : Option Rp.Rep) (w : World) (e : Ending) (w' : World) : Prop :=
  Keep (· < w.heap.size) w w' ∧ match o with
    | none => e = .returned (.tuple #[.agg (rpC noRep (.slice none 0 0)).toArray, .bool false])
    | some r => ∃ v, e = .returned (.tuple #[.agg (rpC r v).toArray, .bool true]) ∧ RacesAt w' (fun b => w.heap.size ≤ b) v r.races

set_option maxRecDepth 100000 in
set_option maxHeartbeats 4000000 in
theorem rread20_short (v : Value) (b : List Nat) (w : World) (p : Nat → Prop) (hx : ∀ x ∈ b, x < 256) (hv : Cells w p v (ints .u8 b)) (hf : b.length < 21 ∨ b.length ≠ 21 + 11 * cntOf b) :
    Calls Tryd.prog 24 #[v] w (GotRead none w) := by
  have HX := hid hx
  have hle := hv.len_le
  rw [ints_length] at hle
  have HV := hid (hv.lt.mono (q := fun b => b < w.heap.size) (fun _ h => h.1))
  have hi := rp_size noRep (.slice none 0 0)
  have h1 := rp_one noRep none 0 0
  have hcase : b.length < 21 ∨ (21 ≤ b.length ∧ b.length ≠ 21 + 11 * cntOf b) := by omega
  have R0 := hid (heap_alloc_new w (.cells (rpC noRep (.slice none 0 0)).toArray 26))
  clear hx hv hf
  rcases hcase with hc | ⟨hc1, hc2⟩
  · obtain ⟨a, n, c, rfl⟩ := cells_form HV.out
    have hn : n = b.length := by
      obtain ⟨_, _, _, e, h1, _⟩ := HV.out
      injection e with _ e2 _
      rw [e2, h1, ints_length]
    have t1 : decide ((n : Int) < 21) = true := by simp; omega
    clear hn hc
    go_enter Tryd.func24, Tryd.ntmps24
    go_wp2_with (refine wpList_store_row rfl 26 (.tmp 2) (.tmp 11) rfl w.heap.size (rpC noRep (.slice none 0 0)).toArray rfl rfl 26 _ R0.out hi rfl h1 ?_)
    refine bodyPost_ret (v := .tuple #[.agg (rpC noRep (.slice none 0 0)).toArray, .bool false]) (results_cell_row_tmp rfl _ _ w.heap.size 26 _ (0, 0) _ rfl (heap_setRow R0.out _) Tryd.underlying26 rfl hi _ rfl) rfl ?_
    exact ⟨((Keep.refl _ _).alloc _ (fun _ h => h)).setRow _ (by simp), rfl⟩
  · obtain ⟨blk, off, c, rfl, hnc, hcm, hblk, hcell⟩ := HV.out.open_ (by omega)
    have hcn := cntOf_le b HX.out hc1
    obtain ⟨n, hn⟩ : ∃ n, b.length = n := ⟨_, rfl⟩
    have HC := hid (And.intro hcell hn)
    obtain ⟨m, hm⟩ : ∃ m, cntOf b = m := ⟨_, rfl⟩
    have HM := hid hm
    rw [hn] at hc1 hc2 hnc HV ⊢
    rw [hm] at hc2 hcn
    have hm0 : (m : Int) ≤ 65535 := by omega
    have t1 : decide ((n : Int) < 21) = false := by simp; omega
    have t2 : ((n : Int) != 21 + 11 * (m : Int)) = true := by simp; omega
    have c1 : (21 : Int) ≤ (c : Int) := by omega
    have hm1 : (11 : Int) * (m : Int) ≤ 9223372036854775807 := by omega
    have hm2 : (-9223372036854775808 : Int) ≤ 11 * (m : Int) := by omega
    have OF := hid (show ∀ w0 : World, Keep (· < w.heap.size) w w0 → Calls Tryd.prog 65 #[.slice (some ⟨blk, off + 19, none⟩) 2 (c - 19)] w0 fun e w' => e = .returned (.int .i64 (m : Int)) ∧ w0 = w' from fun w0 k0 => by
      have h8 := cells_sub (w := w0) (p := fun _ => True) (blk := blk) (off := off) (cs := ints .u8 b) trivial (fun i hi => (k0.cell (x := ⟨blk, off + i, none⟩) hblk).trans (HC.out.1 i hi)) 19 2 (c - 19) (by rw [ints_length, HC.out.2]; omega) (by omega) (by omega)
      rw [ints_drop, ints_take] at h8
      have := rvalue_walk _ _ w0 _ (fun x hx => HX.out x (List.mem_of_mem_drop (List.mem_of_mem_take hx))) h8
      rw [show Drw.num8 ((b.drop 19).take 2) = m from HM.out, Wr.i64_small _ (by omega)] at this
      exact this)
    have K0 := hid (show Keep (· < w.heap.size) w (w.alloc (.cells (rpC noRep (.slice none 0 0)).toArray 26)) from (Keep.refl _ _).alloc _ (fun _ h => h))
    clear hn hcell hm hc2 hcn
    go_enter Tryd.func24, Tryd.ntmps24
    go_wp2_with fail
    refine (OF.out _ K0.out).mono ?_
    rintro e w1 ⟨rfl, rfl⟩
    go_wp2_with (refine wpList_store_row rfl 26 (.tmp 2) (.tmp 21) rfl w.heap.size (rpC noRep (.slice none 0 0)).toArray rfl rfl 26 _ R0.out hi rfl h1 ?_)
    refine bodyPost_ret (v := .tuple #[.agg (rpC noRep (.slice none 0 0)).toArray, .bool false]) (results_cell_row_tmp rfl _ _ w.heap.size 26 _ (0, 0) _ rfl (heap_setRow R0.out _) Tryd.underlying26 rfl hi _ rfl) rfl ?_
    exact ⟨((Keep.refl _ _).alloc _ (fun _ h => h)).setRow _ (by simp), rfl⟩

set_option maxRecDepth 100000 in
set_option maxHeartbeats 8000000 in
theorem rread20_walk (v : Value) (b : List Nat) (w : World) (p : Nat → Prop) (hx : ∀ x ∈ b, x < 256) (hv : Cells w p v (ints .u8 b)) (hc1 : 21 ≤ b.length) (hlen : b.length = 21 + 11 * cntOf b) :
    Calls Tryd.prog 24 #[v] w (GotRead (getRep b) w) := by
  have HX := hid hx
  have HV := hid (hv.lt.mono (q := fun b => b < w.heap.size) (fun _ h => h.1))
  clear hx hv
  obtain ⟨blk, off, c, rfl, hnc, hcm, hblk, hcell⟩ := HV.out.open_ (by omega)
  have hcn := cntOf_le b HX.out hc1
  obtain ⟨n, hn⟩ : ∃ n, b.length = n := ⟨_, rfl⟩
  have HC := hid (And.intro hcell hn)
  obtain ⟨m, hm⟩ : ∃ m, cntOf b = m := ⟨_, rfl⟩
  have HM := hid hm
  rw [hn] at hc1 hlen hnc HV ⊢
  rw [hm] at hlen hcn
  have hm0 : (m : Int) ≤ 65535 := by omega
  have t1 : decide ((n : Int) < 21) = false := by simp; omega
  have t2 : ((n : Int) != 21 + 11 * (m : Int)) = false := by simp; omega
  have c1 : (21 : Int) ≤ (c : Int) := by omega
  have hm1 : (11 : Int) * (m : Int) ≤ 9223372036854775807 := by omega
  have hm2 : (-9223372036854775808 : Int) ≤ 11 * (m : Int) := by omega
  have GETS := hid (show ∀ (w0 : World) (i k c' : Nat), Keep (· < w.heap.size) w w0 → i + k ≤ n → k ≤ c' → c' ≤ 9223372036854775807 → Calls Tryd.prog 65 #[.slice (some ⟨blk, off + i, none⟩) k c'] w0 fun e w' => e = .returned (.int .i64 (Rp.val b i k)) ∧ w0 = w' from fun w0 i k c' k0 hik hkc hcc => by
    have h8 := cells_sub (w := w0) (p := fun _ => True) (blk := blk) (off := off) (cs := ints .u8 b) trivial (fun i hi => (k0.cell (x := ⟨blk, off + i, none⟩) hblk).trans (HC.out.1 i hi)) i k c' (by rw [ints_length, HC.out.2]; omega) hkc hcc
    rw [ints_drop, ints_take] at h8
    exact rvalue_walk _ _ w0 _ (fun x hx => HX.out x (List.mem_of_mem_drop (List.mem_of_mem_take hx))) h8)
  have hvm : Rp.val b 19 2 = (m : Int) := by
    unfold Rp.val
    rw [show Drw.num8 ((b.drop 19).take 2) = m from HM.out, Wr.i64_small _ (by omega)]
  have G19 := hid (show ∀ w0 : World, Keep (· < w.heap.size) w w0 → Calls Tryd.prog 65 #[.slice (some ⟨blk, off + 19, none⟩) 2 (c - 19)] w0 fun e w' => e = .returned (.int .i64 (m : Int)) ∧ w0 = w' from fun w0 k0 => by
    have := GETS.out w0 19 2 (c - 19) k0 (by omega) (by omega) (by omega)
    rwa [hvm] at this)
  have CELL := hid (show ∀ (w0 : World) (i : Nat), Keep (· < w.heap.size) w w0 → i < n → w0.cell? ⟨blk, off + i, none⟩ = some (.int .u8 ((b.getD i 0 : Nat) : Int)) ∧ b.getD i 0 < 256 from fun w0 i k0 hi =>
    ⟨by rw [(k0.cell (x := ⟨blk, off + i, none⟩) hblk), HC.out.1 _ (by rw [ints_length, HC.out.2]; omega), ints_get _ _ _ (by rw [HC.out.2]; omega)], by
      rw [List.getD_eq_getElem?_getD, List.getElem?_eq_getElem (by rw [HC.out.2]; omega)]; exact HX.out _ (List.getElem_mem _)⟩)
  have K0 := hid (show Keep (· < w.heap.size) w (w.alloc (.cells (rpC noRep (.slice none 0 0)).toArray 26)) from (Keep.refl _ _).alloc _ (fun _ h => h))
  have HLEN := hid hlen
  clear hn hcell hm hlen hcn hvm
  go_enter Tryd.func24, Tryd.ntmps24
  go_wp2_with fail
  refine (G19.out _ K0.out).mono ?_
  rintro e w1 ⟨rfl, rfl⟩
  clear hm1 hm2
  go_upto_region 6 with fail
  refine wp_world (fun w1 => Keep (· < w.heap.size) w w1 ∧ w1.heap[w.heap.size]? = some (.cells (rpC noRep (.slice none 0 0)).toArray 26 (0, 0)) ∧ w.heap.size < w1.heap.size) ⟨K0.out, heap_alloc_new w _, by simp⟩ ?_
  rintro w1 ⟨k1, R1, z1⟩
  have H1 := hid (And.intro k1 (And.intro R1 z1))
  clear k1 R1 z1 t1 t2
  have d3 : (3 : Int) ≤ (c : Int) := by omega
  have d11 : (11 : Int) ≤ (c : Int) := by omega
  have d15 : (15 : Int) ≤ (c : Int) := by omega
  have d19 : (19 : Int) ≤ (c : Int) := by omega
  have KE := hid H1.out.1
  have n3 : ¬ c = 3 := by omega
  have n11 : ¬ c = 11 := by omega
  have n15 : ¬ c = 15 := by omega
  have i0 : 0 < n := by omega
  have i1 : (1 : Int) < (n : Int) := by omega
  have i2 : (2 : Int) < (n : Int) := by omega
  obtain ⟨x0, hx0⟩ : ∃ x, b.getD 0 0 = x := ⟨_, rfl⟩
  obtain ⟨x1, hx1⟩ : ∃ x, b.getD 1 0 = x := ⟨_, rfl⟩
  obtain ⟨x2, hx2⟩ : ∃ x, b.getD 2 0 = x := ⟨_, rfl⟩
  have CX := hid (show ∀ w0 : World, Keep (· < w.heap.size) w w0 → w0.cell? ⟨blk, off, none⟩ = some (.int .u8 (x0 : Int)) ∧ w0.cell? ⟨blk, off + 1, none⟩ = some (.int .u8 (x1 : Int)) ∧ w0.cell? ⟨blk, off + 2, none⟩ = some (.int .u8 (x2 : Int)) from fun w0 k0 =>
    ⟨by rw [← hx0]; exact (CELL.out w0 0 k0 (by omega)).1, by rw [← hx1]; exact (CELL.out w0 1 k0 (by omega)).1, by rw [← hx2]; exact (CELL.out w0 2 k0 (by omega)).1⟩)
  have b0 : (x0 : Int) < 256 := by have := (CELL.out w 0 (Keep.refl _ _) (by omega)).2; omega
  have b1 : (x1 : Int) < 256 := by have := (CELL.out w 1 (Keep.refl _ _) (by omega)).2; omega
  have b2 : (x2 : Int) < 256 := by have := (CELL.out w 2 (Keep.refl _ _) (by omega)).2; omega
  have ww0 : IntKind.i64.wrap (x0 : Int) = (x0 : Int) := IntWalk.i64_in _ (by omega)
  have ww1 : IntKind.i64.wrap (x1 : Int) = (x1 : Int) := IntWalk.i64_in _ (by omega)
  have ww2 : IntKind.i64.wrap (x2 : Int) = (x2 : Int) := IntWalk.i64_in _ (by omega)
  have HHD := hid (show ∀ l, Rp.headOf b l = ⟨(x0 : Int), (x1 : Int), (x2 : Int), Rp.val b 3 8, Rp.val b 11 4, Rp.val b 15 4, l⟩ from fun l => by
    unfold Rp.headOf
    rw [Rp.val_one b 0 (by rw [HC.out.2]; omega) (by rw [hx0]; omega), Rp.val_one b 1 (by rw [HC.out.2]; omega) (by rw [hx1]; omega), Rp.val_one b 2 (by rw [HC.out.2]; omega) (by rw [hx2]; omega), hx0, hx1, hx2])
  clear hx0 hx1 hx2
  refine wp_region_plan [true, true, true, true, true, true, true, true, true, true, true, true, true, true, false, true, true, false, false, true, true, false, false, false, false] (.free 0 (.free 1 (.free 2 (.free 3 (.free 4 (.free 5 (.free 6 (.free 7 (.free 8 (.free 9 (.free 10 (.free 11 (.free 12 (.free 13 (.free 15 (.free 16 (.free 19 (.free 20 (.pool [14, 17, 18, 21, 22, 23] (.last 24))))))))))))))))))))
    (fun wx => Keep (· < w1.heap.size) w1 wx) (by kernel_rfl) (by kernel_rfl) (Keep.refl _ _).drew ?_
  refine plan_free rfl rfl (fun K hK => ?_); go_simp; refine hK _ ?_; clear hK K
  refine plan_free rfl rfl (fun K hK => ?_); go_simp; refine hK _ ?_; clear hK K
  refine plan_held (.int .u8 (x0 : Int)) rfl rfl (fun w0 h0 => by obtain ⟨q0, q1, q2⟩ := CX.out w0 (KE.out.trans (h0.mono (fun b h => Nat.lt_of_lt_of_le h KE.out.size))); clear h0; go_simp) (fun K hK => ?_); go_simp; refine hK _ ?_; clear hK K
  refine plan_free rfl rfl (fun K hK => ?_); go_simp; refine hK _ ?_; clear hK K
  refine plan_free rfl rfl (fun K hK => ?_); go_simp; refine hK _ ?_; clear hK K
  refine plan_free rfl rfl (fun K hK => ?_); go_simp; refine hK _ ?_; clear hK K
  refine plan_held (.int .u8 (x1 : Int)) rfl rfl (fun w0 h0 => by obtain ⟨q0, q1, q2⟩ := CX.out w0 (KE.out.trans (h0.mono (fun b h => Nat.lt_of_lt_of_le h KE.out.size))); clear h0; go_simp) (fun K hK => ?_); go_simp; refine hK _ ?_; clear hK K
  refine plan_free rfl rfl (fun K hK => ?_); go_simp; refine hK _ ?_; clear hK K
  refine plan_free rfl rfl (fun K hK => ?_); go_simp; refine hK _ ?_; clear hK K
  refine plan_free rfl rfl (fun K hK => ?_); go_simp; refine hK _ ?_; clear hK K
  refine plan_held (.int .u8 (x2 : Int)) rfl rfl (fun w0 h0 => by obtain ⟨q0, q1, q2⟩ := CX.out w0 (KE.out.trans (h0.mono (fun b h => Nat.lt_of_lt_of_le h KE.out.size))); clear h0; go_simp) (fun K hK => ?_); go_simp; refine hK _ ?_; clear hK K
  iterate 7 (refine plan_free rfl rfl (fun K hK => ?_); go_simp; refine hK _ ?_; clear hK K)
  clear ww0 ww1 ww2 i0 i1 i2
  refine plan_pool _ (fun i => if i = 23 then 5 else 22 + i) [14, 17, 18, 21, 22, 23] [23] (fun i => if i = 14 then Fact.is _ (.int .i64 (Rp.val b 3 8)) else if i = 17 then Fact.is _ (.int .i64 (Rp.val b 11 4)) else if i = 21 then Fact.is _ (.int .i64 (Rp.val b 15 4)) else if i = 18 then Fact.is _ (.agg (endC (x0 : Int) (x1 : Int) (x2 : Int) (Rp.val b 3 8) (Rp.val b 11 4)).toArray) else if i = 22 then Fact.is _ (.agg (rpC ⟨(x0 : Int), (x1 : Int), (x2 : Int), Rp.val b 3 8, Rp.val b 11 4, Rp.val b 15 4, []⟩ (.slice none 0 0)).toArray) else Fact.blockOf _ (fun x => .pointer (some ⟨x, 0, none⟩)) (fun _ => rfl) (rpC noRep (.slice none 0 0)) 26) (fun _ => []) (fun i => if i = 18 then [14, 17] else if i = 22 then [18, 21] else []) (by kernel_rfl) ⟨rfl, rfl, rfl, rfl, rfl, rfl⟩ rfl (fun wx hx => (Keep.refl _ _).drew.trans hx) ⟨?o14, ?o17, ?o18, ?o21, ?o22, ?o23⟩ ?oe
  case o14 =>
    intro vs wx hk _ K hK
    refine pool_op rfl rfl ?_
    have hK' := hK (.int .i64 (Rp.val b 3 8)) wx (pool_is (Keep.refl _ _))
    clear hK
    revert hK'
    simp only [putAll, ↓reduceIte, Nat.reduceEqDiff, List.filter, List.contains, List.elem, List.foldl]
    intro hK'
    go_simp
    refine (GETS.out wx 3 8 (c - 3) (KE.out.trans (((Keep.refl (· < w1.heap.size) w1).drew.trans hk).mono (fun b h => Nat.lt_of_lt_of_le h KE.out.size))) (by omega) (by omega) (by omega)).mono ?_
    rintro e w2 ⟨rfl, rfl⟩
    exact hK'
  case o17 =>
    intro vs wx hk _ K hK
    refine pool_op rfl rfl ?_
    have hK' := hK (.int .i64 (Rp.val b 11 4)) wx (pool_is (Keep.refl _ _))
    clear hK
    revert hK'
    simp only [putAll, ↓reduceIte, Nat.reduceEqDiff, List.filter, List.contains, List.elem, List.foldl]
    intro hK'
    go_simp
    refine (GETS.out wx 11 4 (c - 11) (KE.out.trans (((Keep.refl (· < w1.heap.size) w1).drew.trans hk).mono (fun b h => Nat.lt_of_lt_of_le h KE.out.size))) (by omega) (by omega) (by omega)).mono ?_
    rintro e w2 ⟨rfl, rfl⟩
    exact hK'
  case o21 =>
    intro vs wx hk _ K hK
    refine pool_op rfl rfl ?_
    have hK' := hK (.int .i64 (Rp.val b 15 4)) wx (pool_is (Keep.refl _ _))
    clear hK
    revert hK'
    simp only [putAll, ↓reduceIte, Nat.reduceEqDiff, List.filter, List.contains, List.elem, List.foldl]
    intro hK'
    go_simp
    refine (GETS.out wx 15 4 (c - 15) (KE.out.trans (((Keep.refl (· < w1.heap.size) w1).drew.trans hk).mono (fun b h => Nat.lt_of_lt_of_le h KE.out.size))) (by omega) (by omega) (by omega)).mono ?_
    rintro e w2 ⟨rfl, rfl⟩
    exact hK'
  case o18 =>
    intro vs wx hk h K hK
    obtain ⟨e14, e17⟩ := h
    have e14 : vs 14 = .int .i64 (Rp.val b 3 8) := e14
    have e17 : vs 17 = .int .i64 (Rp.val b 11 4) := e17
    refine pool_op rfl rfl ?_
    have hK' := hK _ wx (pool_is (Keep.refl _ _))
    clear hK
    revert hK'
    simp only [putAll, ↓reduceIte, Nat.reduceEqDiff, List.filter, List.contains, List.elem, Nat.reduceBEq, beq_self_eq_true, List.foldl]
    rw [e14, e17]
    intro hK'
    go_simp
    exact hK'
  case o22 =>
    intro vs wx hk h K hK
    obtain ⟨e18, e21⟩ := h
    have e18 : vs 18 = .agg (endC (x0 : Int) (x1 : Int) (x2 : Int) (Rp.val b 3 8) (Rp.val b 11 4)).toArray := e18
    have e21 : vs 21 = .int .i64 (Rp.val b 15 4) := e21
    refine pool_op rfl rfl ?_
    have hK' := hK _ wx (pool_is (Keep.refl _ _))
    clear hK
    revert hK'
    simp only [putAll, ↓reduceIte, Nat.reduceEqDiff, List.filter, List.contains, List.elem, Nat.reduceBEq, beq_self_eq_true, List.foldl]
    rw [e18, e21]
    intro hK'
    go_simp
    exact hK'
  case o23 =>
    intro vs wx hk _ K hK
    refine pool_op rfl rfl ?_
    simp only [putAll, List.filter, List.contains]
    go_simp
    exact hK _ _ ⟨⟨_, rfl, hk.size, heap_alloc_new wx _⟩, ((Keep.refl _ _).alloc _ (fun _ h => h)).mono (fun b h => h.1), fun _ b hb => .inl (by injection hb with hb; exact Nat.le_of_eq hb)⟩
  case oe =>
    intro vs w2 k2 hT hD
    obtain ⟨f14, f17, f18, f21, f22, ⟨X, f23, hX, bX⟩⟩ := hT
    have e22 : vs 22 = .agg (rpC (Rp.headOf b []) (.slice none 0 0)).toArray := by rw [HHD.out]; exact f22
    have e23 : vs 23 = .pointer (some ⟨X, 0, none⟩) := f23
    have hX : w1.heap.size ≤ X := hX
    clear hD f14 f17 f18 f21 f22 f23
    simp only [putAll, List.foldl, ↓reduceIte, Nat.reduceEqDiff, Nat.reduceAdd]
    rw [e22, e23]
    go_simp
    have hi := rp_size (Rp.headOf b []) (.slice none 0 0)
    have h1 := rp_one (Rp.headOf b []) none 0 0
    refine plan_last rfl rfl (fun K hK => ?_)
    refine wp_store_row 26 (.tmp 5) (.tmp 44) rfl X (rpC (Rp.headOf b []) (.slice none 0 0)).toArray rfl rfl 26 _ bX hi rfl h1 ?_
    refine hK _ _ ?_
    clear hK K
    have R2 := heap_setRow bX (rpC (Rp.headOf b []) (.slice none 0 0)).toArray
    have k3 : Keep (· < w1.heap.size) w1 (w2.setRow X (rpC (Rp.headOf b []) (.slice none 0 0)).toArray) := ((Keep.refl _ _).drew.trans k2).setRow _ (by omega)
    have HS := hid (And.intro k3 (And.intro R2 hX))
    clear hi h1 e22 e23 bX R2 k3 hX k2
    go_upto_region 7 with fail
    refine wp_world (fun w3 => Keep (· < w1.heap.size) w1 w3 ∧ w3.heap[X]? = some (.cells (rpC (Rp.headOf b []) (.slice none 0 0)).toArray 26 (0, 0)) ∧ w1.heap.size ≤ X) HS.out ?_
    rintro w3 h3
    have H3 := hid h3
    clear HS h3
    have hs3 := hid (show w1.heap.size ≤ w3.heap.size from H3.out.1.size)
    have hX3 := hid (show X < w3.heap.size from (Array.getElem?_eq_some_iff.1 H3.out.2.1).1)
    go_wp2_with fail
    go_loopg [6] m (fun k s6 wr => ∃ i, i + k = m ∧ s6 = .int .i64 (i : Int) ∧ GetI w1 w3.heap.size X m b (List.range i) wr)
    case atStart => exact ⟨0, by omega, rfl, _, H3.out.2.1, OwnRaces.nil _ _, H3.out.1, rfl, Nat.le_refl _⟩
    case round =>
      obtain ⟨i, hik, rfl, rv, hX, hrow, hk, hfl, hB⟩ := hrel
      obtain ⟨ra, rc, hrf, hrc1, hrc2⟩ := hrow.at_.form
      subst hrf
      have hLEN := HLEN.out
      have hkw : Keep (· < w.heap.size) w wr := KE.out.trans (hk.mono (fun b h => Nat.lt_of_lt_of_le h KE.out.size))
      by_cases hlt : i < m
      · have l0 : (i : Int) < (m : Int) := by omega
        obtain ⟨o, ho⟩ : ∃ o, off + (21 + 11 * i) = o := ⟨_, rfl⟩
        obtain ⟨y, hy⟩ : ∃ y, b.getD (21 + 11 * i + 10) 0 = y := ⟨_, rfl⟩
        have cx : wr.cell? ⟨blk, o + 10, none⟩ = some (.int .u8 (y : Int)) := by
          have := (CELL.out wr (21 + 11 * i + 10) hkw (by omega)).1
          rwa [hy, show off + (21 + 11 * i + 10) = o + 10 by omega] at this
        have hy256 : (y : Int) < 256 := by have := (CELL.out wr (21 + 11 * i + 10) hkw (by omega)).2; omega
        have HI := hid (And.intro hlt hik)
        have PIECE := hid (show ∀ (w0 : World) (j k c' : Nat), Keep (· < w.heap.size) w w0 → j + k ≤ 11 → k ≤ c' → c' ≤ 9223372036854775807 → Calls Tryd.prog 65 #[.slice (some ⟨blk, o + j, none⟩) k c'] w0 fun e w' => e = .returned (.int .i64 (Rp.val b (21 + 11 * i + j) k)) ∧ w0 = w' from fun w0 j k c' h0 h1 h2 h3 => by
          have := GETS.out w0 (21 + 11 * i + j) k c' h0 (by omega) h2 (by omega)
          rwa [show off + (21 + 11 * i + j) = o + j by omega] at this)
        have HFL := hid hfl
        have HKW := hid hkw
        have HBB := hid (And.intro hX (And.intro hrow (And.intro hk hB)))
        have s1 : 21 + 11 * (i : Int) ≤ (c : Int) := by omega
        have s2 : 32 + 11 * (i : Int) ≤ (c : Int) := by omega
        have s3 : ¬ c = 21 + 11 * i := by omega
        have hi6 : (i : Int) ≤ 65535 := by omega
        clear hX hrow hk hB hfl hkw hlt hik hLEN
        go_upto_region 11 with fail
        rw [ho, show 32 + 11 * i - (21 + 11 * i) = 11 by omega]
        obtain ⟨cc, hcc⟩ : ∃ cc, c - (21 + 11 * i) = cc := ⟨_, rfl⟩
        rw [hcc]
        have q11 : 11 ≤ cc := by omega
        have qcm : cc ≤ 9223372036854775807 := by omega
        clear hcc s1 s2 s3
        by_cases hy3 : 3 < y
        · have t3 : decide ((3 : Int) < (y : Int)) = true := by simp; omega
          have R1 := hid (show wr.heap[w.heap.size]? = some (.cells (rpC noRep (.slice none 0 0)).toArray 26 (0, 0)) from (HBB.out.2.2.1.block _ H1.out.2.2).trans H1.out.2.1)
          have hgr : getRep b = none := by
            unfold getRep
            rw [HM.out]
            have hf : Rp.flagsOk m b (List.range m) = false := by
              cases hq : Rp.flagsOk m b (List.range m) with
              | false => rfl
              | true =>
                have := List.all_eq_true.1 hq i (List.mem_range.2 HI.out.1)
                rw [Nat.mod_eq_of_lt HI.out.1, hy] at this
                simp at this
                omega
            rw [hf]
            rfl
          have HGR := hid hgr
          have hi := rp_size noRep (.slice none 0 0)
          have h1 := rp_one noRep none 0 0
          clear hy hy3 hgr
          go_wp2_with (refine wpList_store_row rfl 26 (.tmp 2) (.tmp 62) rfl w.heap.size (rpC noRep (.slice none 0 0)).toArray rfl rfl 26 _ R1.out hi rfl h1 ?_)
          refine bodyPost_ret (v := .tuple #[.agg (rpC noRep (.slice none 0 0)).toArray, .bool false]) (results_cell_row_tmp rfl _ _ w.heap.size 26 _ (0, 0) _ rfl (heap_setRow R1.out _) Tryd.underlying26 rfl hi _ rfl) rfl ?_
          exact ⟨HKW.out.setRow _ (by simp), by rw [HGR.out]⟩
        · have t3 : decide ((3 : Int) < (y : Int)) = false := by simp; omega
          have HYY := hid (And.intro hy hy3)
          have HY4 := hid (show y = 0 ∨ y = 1 ∨ y = 2 ∨ y = 3 by omega)
          obtain ⟨z1, hz1⟩ : ∃ z, decide (y % 2 = 1) = z := ⟨_, rfl⟩
          obtain ⟨z2, hz2⟩ : ∃ z, decide (y / 2 % 2 = 1) = z := ⟨_, rfl⟩
          have HZ := hid (And.intro hz1 hz2)
          have q2 : (2 : Int) ≤ (cc : Int) := by omega
          have q6 : (6 : Int) ≤ (cc : Int) := by omega
          have q10 : (10 : Int) ≤ (cc : Int) := by omega
          have qn2 : ¬ cc = 2 := by omega
          have qn6 : ¬ cc = 6 := by omega
          clear hy hy3 hz1 hz2 ho
          go_upto_region 13 with fail
          have SX := cell_at (cs := rpC (Rp.headOf b []) (.slice ra (Rp.racesAt m b (List.range i)).length rc)) HBB.out.1 6
          refine wp_region_plan [true, true, true, true, false, true, true, false, true, true, false, true, true, true, true, true, true, true, true, true, true, true, true, true, true, true, false, false, true, false] (.free 0 (.free 1 (.free 2 (.free 3 (.free 5 (.free 6 (.free 8 (.free 9 (.free 11 (.free 12 (.free 13 (.free 14 (.free 21 (.free 22 (.free 23 (.free 24 (.one 4 (.one 7 (.one 10 (.free 15 (.free 16 (.free 17 (.free 18 (.free 19 (.free 20 (.free 25 (.one 26 (.one 27 (.free 28 (.last 29))))))))))))))))))))))))))))))
            (fun wx => wx.cell? ⟨X, 6, none⟩ = some (.slice ra (Rp.racesAt m b (List.range i)).length rc) ∧ wx.cell? ⟨blk, o + 10, none⟩ = some (.int .u8 (y : Int))) (by kernel_rfl) (by kernel_rfl) ⟨SX, cx⟩ ?_
          clear SX
          refine plan_free rfl rfl (fun K hK => ?_); go_simp; refine hK _ ?_; clear hK K
          refine plan_held (.slice ra (Rp.racesAt m b (List.range i)).length rc) rfl rfl (fun w0 h0 => by have h1 := h0.1; clear h0; go_simp) (fun K hK => ?_); go_simp; refine hK _ ?_; clear hK K
          iterate 8 (refine plan_free rfl rfl (fun K hK => ?_); go_simp; refine hK _ ?_; clear hK K)
          refine plan_held (.int .u8 (y : Int)) rfl rfl (fun w0 h0 => by have h1 := h0.2; clear h0; go_simp) (fun K hK => ?_); go_simp; refine hK _ ?_; clear hK K
          have KWD : Keep (· < w.heap.size) w wr.drew := HKW.out.drew
          have HKD := hid KWD
          have SW := hid (show wr.drew.cell? ⟨X, 6, none⟩ = some (.slice ra (Rp.racesAt m b (List.range i)).length rc) ∧ wr.drew.cell? ⟨blk, o + 10, none⟩ = some (.int .u8 (y : Int)) from ⟨cell_at (cs := rpC _ (.slice ra (Rp.racesAt m b (List.range i)).length rc)) HBB.out.1 6, cx⟩)
          clear KWD
          have hy1c : y = 1 ∨ (y ≠ 1 ∧ ((y : Int) == 1) = false) := by
            by_cases h : y = 1
            · exact .inl h
            · exact .inr ⟨h, by simp; omega⟩
          rcases hy1c with rfl | ⟨hyn, hyb⟩
          case' inl =>
            obtain rfl : true = z1 := HZ.out.1
          case' inr => have HYN := hid hyn; clear hyn
          all_goals
            refine plan_free rfl rfl (fun K hK => ?_); go_simp; refine hK _ ?_; clear hK K
            refine plan_free rfl rfl (fun K hK => ?_); go_simp; refine hK _ ?_; clear hK K
            refine plan_free rfl rfl (fun K hK => ?_); go_simp; refine hK _ ?_; clear hK K
            refine plan_held (.int .u8 _) rfl rfl (fun w0 h0 => by have h1 := h0.2; clear h0; go_simp; rfl) (fun K hK => ?_); go_simp; refine hK _ ?_; clear hK K
            refine plan_held (.bool z2) rfl rfl (fun w0 h0 => by clear h0; first | (obtain ⟨_, rfl⟩ := HZ.out; go_simp; (try rfl); done) | (have hz := HZ.out; rcases HY4.out with rfl | rfl | rfl | rfl <;> (obtain ⟨rfl, rfl⟩ := hz; go_simp; try rfl))) (fun K hK => ?_); go_simp; refine hK _ ?_; clear hK K
            refine plan_one rfl rfl (fun K hK => ?_); go_simp
            refine (PIECE.out _ 0 2 _ HKD.out (by omega) (by omega) (by omega)).mono ?_
            rintro e w5 ⟨rfl, rfl⟩
            refine hK _ _ ⟨SW.out, ?_⟩; clear hK K
            refine plan_one rfl rfl (fun K hK => ?_); go_simp
            refine (PIECE.out _ 2 4 _ HKD.out (by omega) (by omega) (by omega)).mono ?_
            rintro e w5 ⟨rfl, rfl⟩
            refine hK _ _ ⟨SW.out, ?_⟩; clear hK K
            refine plan_one rfl rfl (fun K hK => ?_); go_simp
            refine (PIECE.out _ 6 4 _ HKD.out (by omega) (by omega) (by omega)).mono ?_
            rintro e w5 ⟨rfl, rfl⟩
            refine hK _ _ ⟨SW.out, ?_⟩; clear hK K
            refine plan_free rfl rfl (fun K hK => ?_); go_simp; refine hK _ ?_; clear hK K
            first
              | (refine plan_skip rfl rfl ?_; go_simp; refine plan_skip rfl rfl ?_; go_simp; refine plan_skip rfl rfl ?_; go_simp; refine plan_skip rfl rfl ?_; go_simp)
              | (refine plan_free rfl rfl (fun K hK => ?_); go_simp; refine hK _ ?_; clear hK K
                 refine plan_free rfl rfl (fun K hK => ?_); go_simp; refine hK _ ?_; clear hK K
                 refine plan_held (.int .u8 (y : Int)) rfl rfl (fun w0 h0 => by have h1 := h0.2; clear h0; go_simp) (fun K hK => ?_); go_simp; refine hK _ ?_; clear hK K
                 refine plan_held (.bool z1) rfl rfl (fun w0 h0 => by clear h0; have hz := HZ.out; clear hyb; rcases HY4.out with rfl | rfl | rfl | rfl <;> first | (exfalso; exact HYN.out rfl) | (obtain ⟨rfl, rfl⟩ := hz; go_simp; try rfl)) (fun K hK => ?_); go_simp; refine hK _ ?_; clear hK K)
            refine plan_free rfl rfl (fun K hK => ?_); go_simp; refine hK _ ?_; clear hK K
            refine plan_free rfl rfl (fun K hK => ?_); go_simp; refine hK _ ?_; clear hK K
            refine plan_one rfl rfl (fun K hK => ?_); go_simp
          case' inl =>
            obtain ⟨rx, hrx⟩ : ∃ rx : Rp.Race, rx = ⟨Rp.val b (21 + 11 * i) 2, Rp.val b (21 + 11 * i + 2) 4, Rp.val b (21 + 11 * i + 6) 4, true, z2⟩ := ⟨_, rfl⟩
            have erx : #[Value.int .i64 (Rp.val b (21 + 11 * i) 2), .int .i64 (Rp.val b (21 + 11 * i + 2) 4), .int .i64 (Rp.val b (21 + 11 * i + 6) 4), .bool true, .bool z2] = (rcC rx).toArray := by rw [hrx]; rfl
            have HRX := hid (show rx = Rp.raceOf b (21 + 11 * i) by rw [hrx]; unfold Rp.raceOf; rw [HYY.out.1]; rw [show decide (_ % 2 = 1) = true from HZ.out.1, show decide (_ / 2 % 2 = 1) = z2 from HZ.out.2])
          case' inr =>
            obtain ⟨rx, hrx⟩ : ∃ rx : Rp.Race, rx = ⟨Rp.val b (21 + 11 * i) 2, Rp.val b (21 + 11 * i + 2) 4, Rp.val b (21 + 11 * i + 6) 4, z1, z2⟩ := ⟨_, rfl⟩
            have erx : #[Value.int .i64 (Rp.val b (21 + 11 * i) 2), .int .i64 (Rp.val b (21 + 11 * i + 2) 4), .int .i64 (Rp.val b (21 + 11 * i + 6) 4), .bool z1, .bool z2] = (rcC rx).toArray := by rw [hrx]; rfl
            have HRX := hid (show rx = Rp.raceOf b (21 + 11 * i) by rw [hrx]; unfold Rp.raceOf; rw [HYY.out.1]; rw [show decide (_ % 2 = 1) = z1 from HZ.out.1, show decide (_ / 2 % 2 = 1) = z2 from HZ.out.2])
          all_goals
            clear hrx
            rw [erx]
            have kA : Keep (· < wr.heap.size) wr (wr.alloc (.cells (rcC rx).toArray 114)).drew := ((Keep.refl _ _).alloc _ (fun _ h => h)).drew
            have hX5 := (kA.block X (Array.getElem?_eq_some_iff.1 HBB.out.1).1).trans HBB.out.1
            refine hK _ _ ⟨⟨cell_at hX5 6, (kA.cell (x := ⟨blk, o + 10, none⟩) (Nat.lt_of_lt_of_le hblk HKW.out.size)).trans cx⟩, ?_⟩; clear hK K
            have hg5 : wr.grownBy (wr.alloc (.cells (rcC rx).toArray 114)).drew none := let g := World.grownBy_alloc wr (.cells (rcC rx).toArray 114) none; ⟨g.os, g.tape, g.output, g.size, g.block⟩
            refine plan_world (fun w5 => Keep (· < wr.heap.size) wr w5 ∧ w5.heap[wr.heap.size]? = some (.cells (rcC rx).toArray 114 (0, 0)) ∧ OwnRaces w3.heap.size w5 (.slice ra (Rp.racesAt m b (List.range i)).length rc) (Rp.racesAt m b (List.range i)) ∧ w5.heap[X]? = some (.cells (rpC (Rp.headOf b []) (.slice ra (Rp.racesAt m b (List.range i)).length rc)).toArray 26 (0, 0)))
              ⟨kA, heap_alloc_new wr _, HBB.out.2.1.grown hg5 (fun k _ e => by cases e), hX5⟩ ?_
            rintro w5 ⟨k5, R5, or5, X5⟩
            have H5 := hid (And.intro k5 (And.intro or5 X5))
            have hnew : ∀ j y, (rcC rx)[j]? = some y → w5.cell? ((⟨wr.heap.size, 0, none⟩ : Addr).add j) = some y := fun j y hj => by
              rw [addr_add, Nat.zero_add, cell_at R5]; exact hj
            have hl5 : (Rp.racesAt m b (List.range i)).length ≤ 1000000 := by
              have := HI.out.1
              simp only [Rp.racesAt, List.length_map, List.length_range]
              omega
            have HAP := hid (fun ty : TypeId => race_append w3.heap.size w5 ty _ _ rx _ or5 hnew hl5 (Nat.le_trans HBB.out.2.2.2 k5.size))
            clear kA hX5 hg5 k5 R5 or5 X5 hnew hl5
            refine plan_app rfl rfl (.tmp 64) (.tmp 89) 24 24 rfl _ (HAP.out _) ?_
            rintro v6 w6 ⟨or6, hg6⟩
            obtain ⟨r6, c6, hf6, hb6, hd6⟩ := or6.at_.form
            subst hf6
            have hXr : ∀ j, (Value.slice ra (Rp.racesAt m b (List.range i)).length rc).ownBlock = some j → j ≠ X := fun j hj e => by
              have := (H5.out.2.1.lt hj).1
              have := hX3.out
              omega
            have k6 : Keep (fun k => k < wr.heap.size ∧ (Value.slice ra (Rp.racesAt m b (List.range i)).length rc).ownBlock ≠ some k) wr w6 := (H5.out.1.mono (fun k h => h.1)).trans ((Keep.refl _ _).grown hg6 (fun k h => ⟨Nat.lt_of_lt_of_le h.1 H5.out.1.size, fun e => h.2 e.symm⟩))
            have hXW : X < wr.heap.size := (Array.getElem?_eq_some_iff.1 HBB.out.1).1
            have X6 := (k6.block X ⟨hXW, fun e => hXr X e rfl⟩).trans HBB.out.1
            have c6' : w6.cell? ⟨blk, o + 10, none⟩ = wr.cell? ⟨blk, o + 10, none⟩ := k6.cell (x := ⟨blk, o + 10, none⟩) ⟨Nat.lt_of_lt_of_le hblk HKW.out.size, fun e => by
              have h1 : w3.heap.size ≤ blk := (HBB.out.2.1.lt e).1
              have h2 := hs3.out
              have h3 := KE.out.size
              omega⟩
            rw [cx] at c6'
            refine ⟨⟨cell_at X6 6, c6'⟩, ?_⟩
            have H6 := hid (And.intro k6 (And.intro or6 X6))
            have cX6 : w6.cell? ⟨X, 6, none⟩ = some (.slice ra (Rp.racesAt m b (List.range i)).length rc) := cell_at X6 6
            have fX6 := frozen_at X6 6
            clear hg6 hXr k6 X6 c6' or6
            refine plan_free rfl rfl (fun K hK => ?_); go_simp; refine hK _ ?_; clear hK K
            refine plan_last rfl rfl (fun K hK => ?_); go_simp
            refine hK _ _ ?_; clear hK K
            go_wp2_with fail
            go_roundg (gk - 1)
            case measure => have := HI.out; omega
            case rel =>
              have X7 := set_at (cs := rpC (Rp.headOf b []) (.slice ra (Rp.racesAt m b (List.range i)).length rc)) H6.out.2.2 6 (.slice r6 ((Rp.racesAt m b (List.range i)).length + 1) c6)
              have el : (Rp.racesAt m b (List.range i) ++ [rx]).length = (Rp.racesAt m b (List.range i)).length + 1 := by simp
              have er : Rp.racesAt m b (List.range i) ++ [rx] = Rp.racesAt m b (List.range (i + 1)) := by
                rw [HRX.out, List.range_succ]
                simp only [Rp.racesAt, List.map_append, List.map_cons, List.map_nil, Nat.mod_eq_of_lt HI.out.1]
              have or6 := H6.out.2.1
              rw [el, er] at or6
              have hgX : w6.grownBy (w6.setCell ⟨X, 6, none⟩ (.slice r6 ((Rp.racesAt m b (List.range i)).length + 1) c6)) (some X) := ⟨rfl, rfl, rfl, by simp [World.setCell], fun k _ hk => Below.heap_setCell _ _ _ k (fun e => hk (by rw [e]))⟩
              refine ⟨i + 1, by have := HI.out; omega, by go_num, _, X7, or6.grown hgX (fun k hk e => ?_), HBB.out.2.2.1.trans ((H6.out.1.mono (fun k (h : k < w1.heap.size) => ⟨Nat.lt_of_lt_of_le h HBB.out.2.2.1.size, fun e => ?_⟩)).setCell _ (by have := H3.out.2.2; simp; omega)), ?_, ?_⟩
              · injection e with e
                have := (or6.lt hk).1
                have := hX3.out
                omega
              · have := (HBB.out.2.1.lt e).1
                have := hs3.out
                omega
              · have hfl := HFL.out
                unfold Rp.flagsOk at hfl ⊢
                rw [List.range_succ, List.all_append, hfl]
                simp only [List.all_cons, List.all_nil, Nat.mod_eq_of_lt HI.out.1, Bool.and_true, Bool.true_and, decide_eq_true_eq]
                rw [HYY.out.1]
                have := HYY.out.2
                omega
              · have h1 := HBB.out.2.2.2
                have h2 := H6.out.1.size
                simp [World.setCell]
                omega
      · obtain rfl : i = m := by omega
        have R1 : wr.heap[w.heap.size]? = some (.cells (rpC noRep (.slice none 0 0)).toArray 26 (0, 0)) := (hk.block _ H1.out.2.2).trans H1.out.2.1
        obtain ⟨L, hL⟩ : ∃ L, Rp.racesAt i b (List.range i) = L := ⟨_, rfl⟩
        rw [hL] at hrow hX hrc1
        have hgr : getRep b = if Rp.ok (Rp.headOf b L) = true then some (Rp.headOf b L) else none := by
          unfold getRep
          rw [HM.out]
          rw [show Rp.flagsOk i b (List.range i) = true from hfl, Bool.true_and, hL]
        obtain ⟨T, hT⟩ : ∃ T, Rp.ok (Rp.headOf b L) = T := ⟨_, rfl⟩
        rw [hT] at hgr
        have CK := hid (show Calls Tryd.prog 16 #[.agg (rpC (Rp.headOf b []) (.slice ra L.length rc)).toArray] wr fun e w' => e = .returned (.bool T) ∧ Keep (· < wr.heap.size) wr w' from by
          have := rform_walk (Rp.headOf b L) _ wr _ hrow.at_
          rw [hT] at this
          exact this)
        have HQ := hid (And.intro hX (And.intro hrow (And.intro hk (And.intro hkw (And.intro R1 hgr)))))
        have hi := rp_size (Rp.headOf b []) (.slice ra L.length rc)
        have h1 := rp_one (Rp.headOf b []) ra L.length rc
        have hi0 := rp_size noRep (.slice none 0 0)
        have h10 := rp_one noRep none 0 0
        clear hX hrow hk hkw R1 hgr hfl hB hL hT hlt hik hLEN
        go_wp2_with (refine wpList_load_row rfl 26 (.tmp 5) rfl X rfl 26 _ (0, 0) _ HQ.out.1 Tryd.underlying26 rfl hi ?_)
        refine CK.out.mono ?_
        rintro e w5 ⟨rfl, k5⟩
        have X5 := (k5.block X (Array.getElem?_eq_some_iff.1 HQ.out.1).1).trans HQ.out.1
        have R5 := (k5.block w.heap.size (Array.getElem?_eq_some_iff.1 HQ.out.2.2.2.2.1).1).trans HQ.out.2.2.2.2.1
        have H5 := hid (And.intro k5 (And.intro X5 R5))
        clear k5 X5 R5
        cases T with
        | true =>
          go_wp2_with (first
            | (refine wpList_load_row rfl 26 (.tmp 5) rfl X rfl 26 _ (0, 0) _ H5.out.2.1 Tryd.underlying26 rfl hi ?_)
            | (refine wpList_store_row rfl 26 (.tmp 2) (.tmp 96) rfl w.heap.size (rpC (Rp.headOf b []) (.slice ra L.length rc)).toArray rfl rfl 26 _ H5.out.2.2 hi rfl h1 ?_))
          refine bodyPost_ret (v := .tuple #[.agg (rpC (Rp.headOf b []) (.slice ra L.length rc)).toArray, .bool true]) (results_cell_row_tmp rfl _ _ w.heap.size 26 _ (0, 0) _ rfl (heap_setRow H5.out.2.2 _) Tryd.underlying26 rfl hi _ rfl) rfl ?_
          have kq : Keep (fun k => k < wr.heap.size ∧ k ≠ w.heap.size) wr (w5.setRow w.heap.size (rpC (Rp.headOf b []) (.slice ra L.length rc)).toArray) := (H5.out.1.mono (fun k h => h.1)).setRow _ (by simp)
          refine ⟨HQ.out.2.2.2.1.trans (kq.mono (fun k h => by have := HQ.out.2.2.2.1.size; omega)), ?_⟩
          rw [HQ.out.2.2.2.2.2]
          simp only [if_true]
          refine ⟨_, rfl, (HQ.out.2.1.at_.keep kq (fun k hk => ?_)).mono (fun k hk => ?_)⟩
          · have hlk := HQ.out.2.1.lt hk
            have := H1.out.2.2
            have := hs3.out
            exact ⟨hlk.2, by omega⟩
          · have hlk := HQ.out.2.1.lt hk
            have := H1.out.2.2
            have := hs3.out
            omega
        | false =>
          go_wp2_with (refine wpList_store_row rfl 26 (.tmp 2) (.tmp 95) rfl w.heap.size (rpC noRep (.slice none 0 0)).toArray rfl rfl 26 _ H5.out.2.2 hi0 rfl h10 ?_)
          refine bodyPost_ret (v := .tuple #[.agg (rpC noRep (.slice none 0 0)).toArray, .bool false]) (results_cell_row_tmp rfl _ _ w.heap.size 26 _ (0, 0) _ rfl (heap_setRow H5.out.2.2 _) Tryd.underlying26 rfl hi0 _ rfl) rfl ?_
          refine ⟨(HQ.out.2.2.2.1.trans (H5.out.1.mono (fun k h => Nat.lt_of_lt_of_le h HQ.out.2.2.2.1.size))).setRow _ (by simp), ?_⟩
          rw [HQ.out.2.2.2.2.2]
          simp only [Bool.false_eq_true, if_false]

/-- Read of any bytes. -/
theorem rread20_any (v : Value) (b : List Nat) (w : World) (p : Nat → Prop) (hx : ∀ x ∈ b, x < 256) (hv : Cells w p v (ints .u8 b)) : Calls Tryd.prog 24 #[v] w (GotRead (getAny b) w) := by
  unfold getAny
  by_cases h : b.length < 21 ∨ b.length ≠ 21 + 11 * cntOf b
  · rw [if_pos h]; exact rread20_short v b w p hx hv h
  · rw [if_neg h]; exact rread20_walk v b w p hx hv (by omega) (by omega)
/-- Get of any bytes. -/
theorem rpget_any (v : Value) (b : List Nat) (q : Addr) (w : World) (p : Nat → Prop) (hx : ∀ x ∈ b, x < 256) (hv : Cells w p v (ints .u8 b)) (he : w.cell? ⟨2, 0, none⟩ = some (.iface 217 (.pointer (some q)))) (hl : 2 < w.heap.size) :
    Calls Tryd.prog 20 #[v] w (GotRep (getAny b) (.iface 217 (.pointer (some q))) w) := by
  unfold getAny
  by_cases h : b.length < 21 ∨ b.length ≠ 21 + 11 * cntOf b
  · rw [if_pos h]
    exact (rpget_short v b q w p hx hv h he hl).mono fun e w' h => ⟨h.2, h.1⟩
  · rw [if_neg h]; exact rpget_walk v b q w p hx hv (by omega) (by omega) he hl
end Go.Proofs.YtnpneippahdigaaDoor
