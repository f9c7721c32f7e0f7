/-
  Step by step: 'Asked' of the reference 21.
-/
import Derived.Test.YtnpneippahdigaaDoorWireN
import Derived.Test.YtnpneippahdigaaDoorWireK
namespace Go.Proofs.Wr
/-- are bytes a request's? -/
def isAsk (b : List Nat) : Bool := decide (17 ≤ b.length) && reqOk ((b.getD 0 0 : Nat) : Int) (b.drop 17)
theorem isAsk_iff (b : List Nat) : isAsk b = true ↔ 17 ≤ b.length ∧ 1 ≤ b.getD 0 0 ∧ b.getD 0 0 ≤ 7 ∧ (b.getD 0 0 = 1 ∨ b.length ≤ 17) ∧ b.length ≤ 16343 := by
  unfold isAsk
  rw [Bool.and_eq_true, decide_eq_true_eq, reqOk_iff, List.length_drop]
  omega
/-- the two numbers of a request's bytes. -/
def askN (b : List Nat) : Nat := Drw.num8 ((b.drop 1).take 8)
def askF (b : List Nat) : Nat := Drw.num8 ((b.drop 9).take 8)
end Go.Proofs.Wr
namespace Go.Proofs.YtnpneippahdigaaDoor
open Go.RowKit Go.Proofs.Mem Go.Proofs.Txt

theorem lay_req : structLay Tryd.prog 55 = some (rqC 0 0 0 [], [(0, 1), (1, 1), (2, 1), (3, 1)]) := by kernel_rfl
theorem build_req (k n f : Int) (text : List Nat) (w : World) : (Instr.build 55 #[(0, .int .i64 k), (1, .int .i64 n), (2, .int .i64 f), (3, .string (bstr text))]).run Tryd.prog w = .ok (.agg (rqC k n f text).toArray) w := by
  refine run_build w _ _ _ ?_
  rw [built_struct lay_req]
  rfl
theorem rq_size (k n f : Int) (text : List Nat) : (Tryd.prog.info? 55).map (·.size) = some (rqC k n f text).toArray.size := by
  rw [List.size_toArray]
  kernel_rfl
theorem rq_one (k n f : Int) (text : List Nat) : (rqC k n f text).toArray.all (·.oneCell') = true := by simp [rqC, Value.oneCell']

set_option maxRecDepth 100000 in
set_option maxHeartbeats 4000000 in
theorem asked_walk (v : Value) (b : List Nat) (w : World) (p : Nat → Prop) (hx : ∀ x ∈ b, x < 256) (hv : Cells w p v (ints .u8 b)) :
    Calls Tryd.prog 44 #[v] w fun e w' => Keep (· < w.heap.size) w w' ∧ ((Wr.isAsk b = true ∧ e = .returned (.tuple #[.agg (rqC (b.getD 0 0 : Nat) (Wr.i64 (Wr.askN b)) (Wr.i64 (Wr.askF b)) (b.drop 17)).toArray, .bool true])) ∨ (Wr.isAsk b = false ∧ e = .returned (.tuple #[.agg (rqC 0 0 0 []).toArray, .bool false]))) := by
  have HX := hid hx
  have HV := hid (hv.lt.mono (q := fun b => b < w.heap.size) (fun _ h => h.1))
  clear hx hv
  have hi0 := rq_size 0 0 0 []
  have h10 := rq_one 0 0 0 []
  by_cases h17 : b.length < 17
  case pos =>
    obtain ⟨a, n, c, rfl⟩ := cells_form HV.out
    have hn : n = b.length := by
      obtain ⟨_, _, _, e, h1, _⟩ := HV.out
      injection e with _ e2 _
      rw [e2, h1, ints_length]
    have t1 : decide ((n : Int) < 17) = true := by simp; omega
    have HR := hid (show Wr.isAsk b = false by
      cases h : Wr.isAsk b with
      | false => rfl
      | true => have := (Wr.isAsk_iff b).1 h; omega)
    clear hn h17
    go_enter Tryd.func44, Tryd.ntmps44
    go_upto_region 2 with fail
    refine wp_world (fun w1 => Keep (· < w.heap.size) w w1 ∧ w1.heap[w.heap.size]? = some (.cells (rqC 0 0 0 []).toArray 55 (0, 0))) ⟨(Keep.refl _ _).alloc _ (fun _ h => h), heap_alloc_new w _⟩ ?_
    rintro w1 ⟨k1, R1⟩
    have H1 := hid (And.intro k1 R1)
    clear k1 R1
    go_wp2_with (refine wpList_store_row rfl 55 (.tmp 2) (.tmp 35) rfl w.heap.size (rqC 0 0 0 []).toArray rfl rfl 55 _ H1.out.2 hi0 rfl h10 ?_)
    refine bodyPost_ret (v := .tuple #[.agg (rqC 0 0 0 []).toArray, .bool false]) (results_cell_row_tmp rfl _ _ w.heap.size 55 _ (0, 0) _ rfl (heap_setRow H1.out.2 _) Tryd.underlying55 rfl hi0 _ rfl) rfl ?_
    exact ⟨H1.out.1.setRow _ (Nat.lt_irrefl _), .inr ⟨HR.out, rfl⟩⟩
  obtain ⟨blk, off, c, rfl, hnc, hcm, hblk, hcell⟩ := HV.out.open_ (by omega)
  obtain ⟨n, hn⟩ : ∃ n, b.length = n := ⟨_, rfl⟩
  obtain ⟨x0, hx0⟩ : ∃ x, b.getD 0 0 = x := ⟨_, rfl⟩
  obtain ⟨qn, hqn⟩ : ∃ x, Wr.askN b = x := ⟨_, rfl⟩
  obtain ⟨qf, hqf⟩ : ∃ x, Wr.askF b = x := ⟨_, rfl⟩
  have hqnl : qn < 18446744073709551616 := by rw [← hqn]; exact Drw.num8_lt _ (fun x hx => HX.out x (List.mem_of_mem_drop (List.mem_of_mem_take hx)))
  have hqfl : qf < 18446744073709551616 := by rw [← hqf]; exact Drw.num8_lt _ (fun x hx => HX.out x (List.mem_of_mem_drop (List.mem_of_mem_take hx)))
  have c00 : w.cell? ⟨blk, off, none⟩ = some (.int .u8 (x0 : Int)) := by
    have := hcell 0 (by rw [ints_length]; omega)
    rwa [ints_get _ _ _ (by omega), hx0, Nat.add_zero] at this
  have hx256 : x0 < 256 := by rw [← hx0, List.getD_eq_getElem?_getD, List.getElem?_eq_getElem (by omega)]; exact HX.out _ (List.getElem_mem _)
  have HC := hid (And.intro hcell (And.intro hn (And.intro hx0 (And.intro hqn hqf))))
  have hia := Wr.isAsk_iff b
  rw [hx0, hn] at hia
  have HI := hid hia
  rw [hn] at hnc HV h17 ⊢
  rw [hx0, hqn, hqf]
  have ew : IntKind.i64.wrap (x0 : Int) = (x0 : Int) := IntWalk.i64_in _ (by omega)
  have ewn := i64_wrap qn hqnl
  have ewf := i64_wrap qf hqfl
  obtain ⟨zn, hzn⟩ : ∃ z, Wr.i64 qn = z := ⟨_, rfl⟩
  obtain ⟨zf, hzf⟩ : ∃ z, Wr.i64 qf = z := ⟨_, rfl⟩
  rw [hzn] at ewn ⊢
  rw [hzf] at ewf ⊢
  have n0 : 0 < n := by omega
  have t1 : decide ((n : Int) < 17) = false := by simp; omega
  have hkind : x0 < 1 ∨ (1 ≤ x0 ∧ 7 < x0) ∨ (1 ≤ x0 ∧ x0 ≤ 7 ∧ x0 ≠ 1 ∧ 17 < n) ∨ (1 ≤ x0 ∧ x0 ≤ 7 ∧ x0 ≠ 1 ∧ n = 17) ∨ (x0 = 1 ∧ 16343 < n) ∨ (x0 = 1 ∧ n ≤ 16343) := by omega
  have NUM1 := hid (show ∀ w0 : World, Keep (· < w.heap.size) w w0 → Calls Tryd.prog 78 #[.slice (some ⟨blk, off + 1, none⟩) 8 (c - 1)] w0 fun e w' => e = .returned (.int .u64 (qn : Int)) ∧ w0 = w' from fun w0 k0 => by
    have h8 := cells_sub (w := w0) (p := fun _ => True) (blk := blk) (off := off) (cs := ints .u8 b) trivial (fun i hi => (k0.cell (x := ⟨blk, off + i, none⟩) hblk).trans (HC.out.1 i hi)) 1 8 (c - 1) (by rw [ints_length, HC.out.2.1]; omega) (by omega) (by omega)
    rw [ints_drop, ints_take] at h8
    have := rnum21_walk _ _ w0 _ (fun x hx => HX.out x (List.mem_of_mem_drop (List.mem_of_mem_take hx))) h8
    have e3 : Drw.num8 ((b.drop 1).take 8) = qn := HC.out.2.2.2.1
    rw [e3] at this
    exact this)
  have NUM2 := hid (show ∀ w0 : World, Keep (· < w.heap.size) w w0 → Calls Tryd.prog 78 #[.slice (some ⟨blk, off + 9, none⟩) 8 (c - 9)] w0 fun e w' => e = .returned (.int .u64 (qf : Int)) ∧ w0 = w' from fun w0 k0 => by
    have h8 := cells_sub (w := w0) (p := fun _ => True) (blk := blk) (off := off) (cs := ints .u8 b) trivial (fun i hi => (k0.cell (x := ⟨blk, off + i, none⟩) hblk).trans (HC.out.1 i hi)) 9 8 (c - 9) (by rw [ints_length, HC.out.2.1]; omega) (by omega) (by omega)
    rw [ints_drop, ints_take] at h8
    have := rnum21_walk _ _ w0 _ (fun x hx => HX.out x (List.mem_of_mem_drop (List.mem_of_mem_take hx))) h8
    have e3 : Drw.num8 ((b.drop 9).take 8) = qf := HC.out.2.2.2.2
    rw [e3] at this
    exact this)
  have C00 := hid c00
  have q1 : ¬ c = 1 := by omega
  have q9 : ¬ c = 9 := by omega
  have d1 : (9 : Int) ≤ (c : Int) := by omega
  have d2 : (17 : Int) ≤ (c : Int) := by omega
  have d3 : (17 : Int) ≤ (n : Int) := by omega
  clear hn hcell hx0 hqn hqf hzn hzf hia hqnl hqfl
  go_enter Tryd.func44, Tryd.ntmps44
  go_upto_region 1 with fail
  refine wp_world (fun w1 => Keep (· < w.heap.size) w w1 ∧ w1.heap[w.heap.size]? = some (.cells (rqC 0 0 0 []).toArray 55 (0, 0)) ∧ w.heap.size < w1.heap.size) ⟨(Keep.refl _ _).alloc _ (fun _ h => h), heap_alloc_new w _, by simp⟩ ?_
  rintro w1 ⟨k1, R1, z1⟩
  have c0 := (k1.cell (x := ⟨blk, off, none⟩) hblk).trans c00
  have H1 := hid (And.intro k1 R1)
  clear k1 R1 c00
  rcases hkind with hc | hc | hc | hc | hc | hc
  case inl =>
    obtain rfl : x0 = 0 := by omega
    have HR := hid (show Wr.isAsk b = false by
      cases h : Wr.isAsk b with
      | false => rfl
      | true => have := HI.out.1 h; omega)
    clear hc
    go_upto_region 2 with fail
    go_wp2_with (refine wpList_store_row rfl 55 (.tmp 2) (.tmp 35) rfl w.heap.size (rqC 0 0 0 []).toArray rfl rfl 55 _ H1.out.2 hi0 rfl h10 ?_)
    refine bodyPost_ret (v := .tuple #[.agg (rqC 0 0 0 []).toArray, .bool false]) (results_cell_row_tmp rfl _ _ w.heap.size 55 _ (0, 0) _ rfl (heap_setRow H1.out.2 _) Tryd.underlying55 rfl hi0 _ rfl) rfl ?_
    exact ⟨H1.out.1.setRow _ (Nat.lt_irrefl _), .inr ⟨HR.out, rfl⟩⟩
  case inr.inl =>
    have t2 : decide (x0 < 1) = false := by simp; omega
    have i1 : (1 : Int) ≤ (x0 : Int) := by omega
    have i4 : decide ((x0 : Int) < 1) = false := by simp; omega
    have t3 : decide (7 < x0) = true := by simp; omega
    have i2 : ¬ (x0 : Int) ≤ 7 := by omega
    have i3 : decide ((7 : Int) < (x0 : Int)) = true := by simp; omega
    have HR := hid (show Wr.isAsk b = false by
      cases h : Wr.isAsk b with
      | false => rfl
      | true => have := HI.out.1 h; omega)
    clear hc
    go_upto_region 2 with fail
    go_wp2_with (refine wpList_store_row rfl 55 (.tmp 2) (.tmp 35) rfl w.heap.size (rqC 0 0 0 []).toArray rfl rfl 55 _ H1.out.2 hi0 rfl h10 ?_)
    refine bodyPost_ret (v := .tuple #[.agg (rqC 0 0 0 []).toArray, .bool false]) (results_cell_row_tmp rfl _ _ w.heap.size 55 _ (0, 0) _ rfl (heap_setRow H1.out.2 _) Tryd.underlying55 rfl hi0 _ rfl) rfl ?_
    exact ⟨H1.out.1.setRow _ (Nat.lt_irrefl _), .inr ⟨HR.out, rfl⟩⟩
  case inr.inr.inl =>
    have t2 : decide (x0 < 1) = false := by simp; omega
    have i1 : (1 : Int) ≤ (x0 : Int) := by omega
    have i4 : decide ((x0 : Int) < 1) = false := by simp; omega
    have t3 : decide (7 < x0) = false := by simp; omega
    have i2 : (x0 : Int) ≤ 7 := by omega
    have i3 : decide ((7 : Int) < (x0 : Int)) = false := by simp; omega
    have t4 : ¬ x0 = 1 := hc.2.2.1
    have t4' : ¬ (x0 : Int) = 1 := by omega
    have t4'' : ((x0 : Int) == 1) = false := by simp; omega
    have t4''' : ((x0 : Int) != 1) = true := by simp; omega
    have i5 : ¬ (n : Int) ≤ 17 := by omega
    have t5 : decide ((17 : Int) < (n : Int)) = true := by simp; omega
    have HR := hid (show Wr.isAsk b = false by
      cases h : Wr.isAsk b with
      | false => rfl
      | true => have := HI.out.1 h; omega)
    clear hc
    go_upto_region 2 with fail
    go_wp2_with (refine wpList_store_row rfl 55 (.tmp 2) (.tmp 35) rfl w.heap.size (rqC 0 0 0 []).toArray rfl rfl 55 _ H1.out.2 hi0 rfl h10 ?_)
    refine bodyPost_ret (v := .tuple #[.agg (rqC 0 0 0 []).toArray, .bool false]) (results_cell_row_tmp rfl _ _ w.heap.size 55 _ (0, 0) _ rfl (heap_setRow H1.out.2 _) Tryd.underlying55 rfl hi0 _ rfl) rfl ?_
    exact ⟨H1.out.1.setRow _ (Nat.lt_irrefl _), .inr ⟨HR.out, rfl⟩⟩
  case inr.inr.inr.inr.inl =>
    obtain ⟨rfl, hc⟩ := hc
    have t5 : decide ((16343 : Int) < (n : Int)) = true := by simp; omega
    have HR := hid (show Wr.isAsk b = false by
      cases h : Wr.isAsk b with
      | false => rfl
      | true => have := HI.out.1 h; omega)
    clear hc
    go_upto_region 2 with fail
    go_wp2_with (refine wpList_store_row rfl 55 (.tmp 2) (.tmp 35) rfl w.heap.size (rqC 0 0 0 []).toArray rfl rfl 55 _ H1.out.2 hi0 rfl h10 ?_)
    refine bodyPost_ret (v := .tuple #[.agg (rqC 0 0 0 []).toArray, .bool false]) (results_cell_row_tmp rfl _ _ w.heap.size 55 _ (0, 0) _ rfl (heap_setRow H1.out.2 _) Tryd.underlying55 rfl hi0 _ rfl) rfl ?_
    exact ⟨H1.out.1.setRow _ (Nat.lt_irrefl _), .inr ⟨HR.out, rfl⟩⟩
  case inr.inr.inr.inl =>
    have t2 : decide (x0 < 1) = false := by simp; omega
    have i1 : (1 : Int) ≤ (x0 : Int) := by omega
    have i4 : decide ((x0 : Int) < 1) = false := by simp; omega
    have t3 : decide (7 < x0) = false := by simp; omega
    have i2 : (x0 : Int) ≤ 7 := by omega
    have i3 : decide ((7 : Int) < (x0 : Int)) = false := by simp; omega
    have t4 : ¬ x0 = 1 := hc.2.2.1
    have t4a : ¬ (x0 : Int) = 1 := by omega
    have t4b : ((x0 : Int) == 1) = false := by simp; omega
    have t4c : ((x0 : Int) != 1) = true := by simp; omega
    have i5 : (n : Int) ≤ 17 := by omega
    have t5 : decide ((17 : Int) < (n : Int)) = false := by simp; omega
    have i6 : (n : Int) ≤ 16343 := by omega
    have t6 : decide ((16343 : Int) < (n : Int)) = false := by simp; omega
    have HR := hid (show Wr.isAsk b = true from HI.out.2 (by omega))
    clear hc
    go_upto_region 3 with fail
    clear t2 i1 i4 t3 i2 i3 t4 t4a t4b t4c i5 t5 i6 t6
    refine wp_region_plan [true, true, true, true, true, true, false, true, true, true, false, true, true, true, true, true, false, false] (.free 0 (.free 1 (.free 2 (.free 3 (.free 4 (.free 5 (.free 8 (.free 9 (.free 12 (.free 13 (.free 14 (.one 6 (.free 7 (.one 10 (.free 11 (.free 15 (.one 16 (.last 17))))))))))))))))))
      (fun wx => Keep (· < w.heap.size) w wx) (by kernel_rfl) (by kernel_rfl) (H1.out.1.drewN 1) ?_
    iterate 2 (refine plan_free rfl rfl (fun K hK => ?_); go_simp; refine hK _ ?_; clear hK K)
    refine plan_held (.int .u8 (x0 : Int)) rfl rfl (fun w0 h0 => by have := (h0.cell (x := ⟨blk, off, none⟩) hblk).trans C00.out; go_simp) (fun K hK => ?_); refine hK _ ?_; clear hK K
    iterate 7 (refine plan_free rfl rfl (fun K hK => ?_); go_simp; refine hK _ ?_; clear hK K)
    obtain ⟨ab, hab⟩ : ∃ ab, (if c = 17 then some (⟨blk, off, none⟩ : Addr) else some ⟨blk, off + 17, none⟩) = ab := ⟨_, rfl⟩
    rw [hab]
    have CB := hid (show Cells w (fun b => b < w.heap.size) (.slice ab (n - 17) (c - 17)) (ints .u8 (b.drop 17)) by
      rw [← hab]
      split
      · have h0 : b.drop 17 = [] := List.drop_eq_nil_of_le (by rw [HC.out.2.1]; omega)
        rw [h0, show n - 17 = 0 by omega]
        exact ⟨_, _, _, rfl, rfl, Nat.zero_le _, by unfold maxLen; omega, fun h => absurd h (by decide)⟩
      · have := cells_sub (w := w) (p := fun b => b < w.heap.size) (blk := blk) (off := off) (cs := ints .u8 b) hblk (fun i hi => HC.out.1 i hi) 17 (n - 17) (c - 17) (by rw [ints_length, HC.out.2.1]; omega) (by omega) (by omega)
        rwa [ints_drop, ints_take, List.take_of_length_le (by rw [List.length_drop, HC.out.2.1]; exact Nat.le_refl _)] at this)
    clear hab
    refine plan_held (.string (bstr (b.drop 17))) rfl rfl (fun w0 h0 => by have := conv_bytes21 w0 (CB.out.keep h0 (fun _ h => h)); go_simp) (fun K hK => ?_); refine hK _ ?_; clear hK K
    refine plan_one rfl rfl (fun K hK => ?_); go_simp
    refine (NUM1.out _ (H1.out.1.drewN 1)).mono ?_
    rintro e w2 ⟨rfl, rfl⟩
    refine hK _ _ ⟨H1.out.1.drewN 1, ?_⟩
    clear hK K
    refine plan_free rfl rfl (fun K hK => ?_); go_simp; refine hK _ ?_; clear hK K
    refine plan_one rfl rfl (fun K hK => ?_); go_simp
    refine (NUM2.out _ (H1.out.1.drewN 1)).mono ?_
    rintro e w2 ⟨rfl, rfl⟩
    refine hK _ _ ⟨H1.out.1.drewN 1, ?_⟩
    clear hK K
    refine plan_free rfl rfl (fun K hK => ?_); go_simp; refine hK _ ?_; clear hK K
    refine plan_build rfl rfl 55 [(0, .tmp 39), (1, .tmp 43), (2, .tmp 47), (3, .tmp 50)] rfl (.agg (rqC (x0 : Int) zn zf (b.drop 17)).toArray) (fun w0 => build_req (x0 : Int) zn zf (b.drop 17) w0) (fun K hK => ?_); refine hK _ ?_; clear hK K
    refine plan_one rfl rfl (fun K hK => ?_)
    refine wp_store_row 55 (.tmp 2) (.tmp 51) rfl w.heap.size (rqC (x0 : Int) zn zf (b.drop 17)).toArray rfl rfl 55 _ (show w1.drew.heap[w.heap.size]? = _ from H1.out.2) (rq_size _ _ _ _) rfl (rq_one _ _ _ _) ?_
    have R3 := hid (heap_setRow (show w1.drew.heap[w.heap.size]? = _ from H1.out.2) (rqC (x0 : Int) zn zf (b.drop 17)).toArray)
    have K3 := hid ((H1.out.1.drewN 1).setRow (b := w.heap.size) (rqC (x0 : Int) zn zf (b.drop 17)).toArray (Nat.lt_irrefl _))
    refine hK _ _ ⟨K3.out, ?_⟩
    clear hK K
    refine plan_last rfl rfl (fun K hK => ?_); go_simp
    refine hK _ _ ?_
    clear hK K
    go_wp2_with fail
    refine bodyPost_ret (v := .tuple #[.agg (rqC (x0 : Int) zn zf (b.drop 17)).toArray, .bool true]) (results_cell_row_tmp rfl _ _ w.heap.size 55 _ (0, 0) _ rfl R3.out Tryd.underlying55 rfl (rq_size _ _ _ _) _ rfl) rfl ?_
    exact ⟨K3.out, .inl ⟨HR.out, rfl⟩⟩
  case inr.inr.inr.inr.inr =>
    have i6 : (n : Int) ≤ 16343 := by omega
    have t6 : decide ((16343 : Int) < (n : Int)) = false := by simp; omega
    have HR := hid (show Wr.isAsk b = true from HI.out.2 (by omega))
    obtain ⟨rfl, hc⟩ := hc
    clear hc
    go_upto_region 3 with fail
    clear i6 t6
    refine wp_region_plan [true, true, true, true, true, true, false, true, true, true, false, true, true, true, true, true, false, false] (.free 0 (.free 1 (.free 2 (.free 3 (.free 4 (.free 5 (.free 8 (.free 9 (.free 12 (.free 13 (.free 14 (.one 6 (.free 7 (.one 10 (.free 11 (.free 15 (.one 16 (.last 17))))))))))))))))))
      (fun wx => Keep (· < w.heap.size) w wx) (by kernel_rfl) (by kernel_rfl) (H1.out.1.drewN 1) ?_
    iterate 2 (refine plan_free rfl rfl (fun K hK => ?_); go_simp; refine hK _ ?_; clear hK K)
    refine plan_held (.int .u8 1) rfl rfl (fun w0 h0 => by have := (h0.cell (x := ⟨blk, off, none⟩) hblk).trans C00.out; go_simp) (fun K hK => ?_); refine hK _ ?_; clear hK K
    iterate 7 (refine plan_free rfl rfl (fun K hK => ?_); go_simp; refine hK _ ?_; clear hK K)
    obtain ⟨ab, hab⟩ : ∃ ab, (if c = 17 then some (⟨blk, off, none⟩ : Addr) else some ⟨blk, off + 17, none⟩) = ab := ⟨_, rfl⟩
    rw [hab]
    have CB := hid (show Cells w (fun b => b < w.heap.size) (.slice ab (n - 17) (c - 17)) (ints .u8 (b.drop 17)) by
      rw [← hab]
      split
      · have h0 : b.drop 17 = [] := List.drop_eq_nil_of_le (by rw [HC.out.2.1]; omega)
        rw [h0, show n - 17 = 0 by omega]
        exact ⟨_, _, _, rfl, rfl, Nat.zero_le _, by unfold maxLen; omega, fun h => absurd h (by decide)⟩
      · have := cells_sub (w := w) (p := fun b => b < w.heap.size) (blk := blk) (off := off) (cs := ints .u8 b) hblk (fun i hi => HC.out.1 i hi) 17 (n - 17) (c - 17) (by rw [ints_length, HC.out.2.1]; omega) (by omega) (by omega)
        rwa [ints_drop, ints_take, List.take_of_length_le (by rw [List.length_drop, HC.out.2.1]; exact Nat.le_refl _)] at this)
    clear hab
    refine plan_held (.string (bstr (b.drop 17))) rfl rfl (fun w0 h0 => by have := conv_bytes21 w0 (CB.out.keep h0 (fun _ h => h)); go_simp) (fun K hK => ?_); refine hK _ ?_; clear hK K
    refine plan_one rfl rfl (fun K hK => ?_); go_simp
    refine (NUM1.out _ (H1.out.1.drewN 1)).mono ?_
    rintro e w2 ⟨rfl, rfl⟩
    refine hK _ _ ⟨H1.out.1.drewN 1, ?_⟩
    clear hK K
    refine plan_free rfl rfl (fun K hK => ?_); go_simp; refine hK _ ?_; clear hK K
    refine plan_one rfl rfl (fun K hK => ?_); go_simp
    refine (NUM2.out _ (H1.out.1.drewN 1)).mono ?_
    rintro e w2 ⟨rfl, rfl⟩
    refine hK _ _ ⟨H1.out.1.drewN 1, ?_⟩
    clear hK K
    refine plan_free rfl rfl (fun K hK => ?_); go_simp; refine hK _ ?_; clear hK K
    refine plan_build rfl rfl 55 [(0, .tmp 39), (1, .tmp 43), (2, .tmp 47), (3, .tmp 50)] rfl (.agg (rqC 1 zn zf (b.drop 17)).toArray) (fun w0 => build_req 1 zn zf (b.drop 17) w0) (fun K hK => ?_); refine hK _ ?_; clear hK K
    refine plan_one rfl rfl (fun K hK => ?_)
    refine wp_store_row 55 (.tmp 2) (.tmp 51) rfl w.heap.size (rqC 1 zn zf (b.drop 17)).toArray rfl rfl 55 _ (show w1.drew.heap[w.heap.size]? = _ from H1.out.2) (rq_size _ _ _ _) rfl (rq_one _ _ _ _) ?_
    have R3 := hid (heap_setRow (show w1.drew.heap[w.heap.size]? = _ from H1.out.2) (rqC 1 zn zf (b.drop 17)).toArray)
    have K3 := hid ((H1.out.1.drewN 1).setRow (b := w.heap.size) (rqC 1 zn zf (b.drop 17)).toArray (Nat.lt_irrefl _))
    refine hK _ _ ⟨K3.out, ?_⟩
    clear hK K
    refine plan_last rfl rfl (fun K hK => ?_); go_simp
    refine hK _ _ ?_
    clear hK K
    go_wp2_with fail
    refine bodyPost_ret (v := .tuple #[.agg (rqC 1 zn zf (b.drop 17)).toArray, .bool true]) (results_cell_row_tmp rfl _ _ w.heap.size 55 _ (0, 0) _ rfl R3.out Tryd.underlying55 rfl (rq_size _ _ _ _) _ rfl) rfl ?_
    exact ⟨K3.out, .inl ⟨HR.out, rfl⟩⟩
end Go.Proofs.YtnpneippahdigaaDoor
