/-
  Step by step: 'GetRequest' of package wire.
-/
import Derived.Test.YtnpneippahdigaaDoorWireO
namespace Go.Proofs.YtnpneippahdigaaDoor
open Go.RowKit Go.Proofs.Mem Go.Proofs.Txt

set_option maxRecDepth 100000 in
set_option maxHeartbeats 4000000 in
theorem greq_walk (v : Value) (b : List Nat) (w : World) (et : TypeId) (ex : Value) (p : Nat → Prop) (hx : ∀ x ∈ b, x < 256) (hbl : b.length ≤ 1099511627776) (hv : Cells w p v (ints .u8 b)) (he : w.cell? ⟨11, 0, none⟩ = some (.iface et ex)) (hg : 11 < w.heap.size) :
    Calls Tryd.prog 32 #[v] w fun e w' => Keep (· < w.heap.size) w w' ∧ ((Wr.isAsk b = true ∧ e = .returned (.tuple #[.agg (rqC (b.getD 0 0 : Nat) (Wr.i64 (Wr.askN b)) (Wr.i64 (Wr.askF b)) (b.drop 17)).toArray, .nilIface])) ∨ (Wr.isAsk b = false ∧ e = .returned (.tuple #[.agg (rqC 0 0 0 []).toArray, .iface et ex]))) := by
  have HX := hid hx
  have HE := hid he
  have HV := hid (hv.lt.mono (q := fun b => b < w.heap.size) (fun _ h => h.1))
  clear hx hv he
  have hi0 := rq_size 0 0 0 []
  have h10 := rq_one 0 0 0 []
  by_cases h17 : b.length < 17
  case pos =>
    obtain ⟨a, n, c, rfl⟩ := cells_form HV.out
    have hn : n = b.length := by
      obtain ⟨_, _, _, e, h1, _⟩ := HV.out
      injection e with _ e2 _
      rw [e2, h1, ints_length]
    have t1 : decide ((n : Int) < 17) = true := by simp; omega
    have HR := hid (show Wr.isAsk b = false by
      cases h : Wr.isAsk b with
      | false => rfl
      | true => have := (Wr.isAsk_iff b).1 h; omega)
    clear hn h17 hbl
    go_enter Tryd.func32, Tryd.ntmps32
    go_upto_region 2 with fail
    refine wp_world (fun w1 => Keep (· < w.heap.size) w w1 ∧ w1.heap[w.heap.size]? = some (.cells (rqC 0 0 0 []).toArray 55 (0, 0))) ⟨(Keep.refl _ _).alloc _ (fun _ h => h), heap_alloc_new w _⟩ ?_
    rintro w1 ⟨k1, R1⟩
    have H1 := hid (And.intro k1 R1)
    have ce := (k1.cell (x := ⟨11, 0, none⟩) hg).trans HE.out
    clear k1 R1
    refine wp_region_plan [true, true, false, false] (.free 0 (.free 1 (.one 2 (.last 3)))) (fun wx => wx.cell? ⟨11, 0, none⟩ = some (.iface et ex)) (by kernel_rfl) (by kernel_rfl) ce ?_
    clear ce
    refine plan_free rfl rfl (fun K hK => ?_); go_simp; refine hK _ ?_; clear hK K
    refine plan_held (.iface et ex) rfl rfl (fun w0 h0 => by go_simp) (fun K hK => ?_); refine hK _ ?_; clear hK K
    refine plan_one rfl rfl (fun K hK => ?_)
    refine wp_store_row 55 (.tmp 2) (.tmp 10) rfl w.heap.size (rqC 0 0 0 []).toArray rfl rfl 55 _ (show w1.drew.heap[w.heap.size]? = _ from H1.out.2) hi0 rfl h10 ?_
    have k2 := (H1.out.1.drewN 1).setRow (b := w.heap.size) (rqC 0 0 0 []).toArray (Nat.lt_irrefl _)
    have R2 := heap_setRow (show w1.drew.heap[w.heap.size]? = _ from H1.out.2) (rqC 0 0 0 []).toArray
    refine hK _ _ ⟨(k2.cell (x := ⟨_, 0, none⟩) hg).trans HE.out, ?_⟩
    clear hK K
    have H2 := hid (And.intro k2 R2)
    refine plan_last rfl rfl (fun K hK => ?_); go_simp
    refine hK _ _ ?_
    clear hK K k2 R2
    go_wp2_with fail
    refine bodyPost_ret (v := .tuple #[.agg (rqC 0 0 0 []).toArray, .iface et ex]) (results_cell_row_tmp rfl _ _ w.heap.size 55 _ (0, 0) _ rfl H2.out.2 Tryd.underlying55 rfl hi0 _ rfl) rfl ?_
    exact ⟨H2.out.1, .inr ⟨HR.out, rfl⟩⟩
  have hask : Wr.isAsk b = Wr.reqOk ((b.getD 0 0 : Nat) : Int) (b.drop 17) := by unfold Wr.isAsk; rw [decide_eq_true (by omega : 17 ≤ b.length), Bool.true_and]
  rw [hask]
  clear hask
  obtain ⟨blk, off, c, rfl, hnc, hcm, hblk, hcell⟩ := HV.out.open_ (by omega)
  obtain ⟨n, hn⟩ : ∃ n, b.length = n := ⟨_, rfl⟩
  obtain ⟨x0, hx0⟩ : ∃ x, b.getD 0 0 = x := ⟨_, rfl⟩
  obtain ⟨zn, hzn⟩ : ∃ z, Wr.i64 (Wr.askN b) = z := ⟨_, rfl⟩
  obtain ⟨zf, hzf⟩ : ∃ z, Wr.i64 (Wr.askF b) = z := ⟨_, rfl⟩
  have c00 : w.cell? ⟨blk, off, none⟩ = some (.int .u8 (x0 : Int)) := by
    have := hcell 0 (by rw [ints_length]; omega)
    rwa [ints_get _ _ _ (by omega), hx0, Nat.add_zero] at this
  have hx256 : x0 < 256 := by rw [← hx0, List.getD_eq_getElem?_getD, List.getElem?_eq_getElem (by omega)]; exact HX.out _ (List.getElem_mem _)
  have HC := hid (And.intro hcell (And.intro hn (And.intro hzn hzf)))
  rw [hn] at hnc HV h17 hbl ⊢
  rw [hx0, hzn, hzf]
  have ew : IntKind.i64.wrap (x0 : Int) = (x0 : Int) := IntWalk.i64_in _ (by omega)
  have n0 : 0 < n := by omega
  have t1 : decide ((n : Int) < 17) = false := by simp; omega
  have NUM1 := hid (show ∀ w0 : World, Keep (· < w.heap.size) w w0 → Calls Tryd.prog 73 #[.slice (some ⟨blk, off + 1, none⟩) 8 (c - 1)] w0 fun e w' => e = .returned (.int .i64 zn) ∧ w0 = w' from fun w0 k0 => by
    have h8 := cells_sub (w := w0) (p := fun _ => True) (blk := blk) (off := off) (cs := ints .u8 b) trivial (fun i hi => (k0.cell (x := ⟨blk, off + i, none⟩) hblk).trans (HC.out.1 i hi)) 1 8 (c - 1) (by rw [ints_length, HC.out.2.1]; omega) (by omega) (by omega)
    rw [ints_drop, ints_take] at h8
    have := wof_walk _ _ w0 _ (fun x hx => HX.out x (List.mem_of_mem_drop (List.mem_of_mem_take hx))) h8
    have e3 : Wr.i64 (Drw.num8 ((b.drop 1).take 8)) = zn := HC.out.2.2.1
    rw [e3] at this
    exact this)
  have NUM2 := hid (show ∀ w0 : World, Keep (· < w.heap.size) w w0 → Calls Tryd.prog 73 #[.slice (some ⟨blk, off + 9, none⟩) 8 (c - 9)] w0 fun e w' => e = .returned (.int .i64 zf) ∧ w0 = w' from fun w0 k0 => by
    have h8 := cells_sub (w := w0) (p := fun _ => True) (blk := blk) (off := off) (cs := ints .u8 b) trivial (fun i hi => (k0.cell (x := ⟨blk, off + i, none⟩) hblk).trans (HC.out.1 i hi)) 9 8 (c - 9) (by rw [ints_length, HC.out.2.1]; omega) (by omega) (by omega)
    rw [ints_drop, ints_take] at h8
    have := wof_walk _ _ w0 _ (fun x hx => HX.out x (List.mem_of_mem_drop (List.mem_of_mem_take hx))) h8
    have e3 : Wr.i64 (Drw.num8 ((b.drop 9).take 8)) = zf := HC.out.2.2.2
    rw [e3] at this
    exact this)
  have C00 := hid c00
  have q1 : ¬ c = 1 := by omega
  have q9 : ¬ c = 9 := by omega
  have d1 : (9 : Int) ≤ (c : Int) := by omega
  have d2 : (17 : Int) ≤ (c : Int) := by omega
  have d3 : (17 : Int) ≤ (n : Int) := by omega
  clear hn hcell hx0 hzn hzf c00
  go_enter Tryd.func32, Tryd.ntmps32
  go_upto_region 3 with fail
  refine wp_world (fun w1 => Keep (· < w.heap.size) w w1 ∧ w1.heap[w.heap.size]? = some (.cells (rqC 0 0 0 []).toArray 55 (0, 0)) ∧ w.heap.size < w1.heap.size) ⟨(Keep.refl _ _).alloc _ (fun _ h => h), heap_alloc_new w _, by simp⟩ ?_
  rintro w1 ⟨k1, R1, z1⟩
  have H1 := hid (And.intro k1 R1)
  clear k1 R1
  have KK := hid (H1.out.1.drewN 1)
  have hiX := rq_size (x0 : Int) zn zf (b.drop 17)
  have h1X := rq_one (x0 : Int) zn zf (b.drop 17)
  refine wp_region_plan [true, true, true, true, true, true, false, true, true, false, true, true, true, true, false, false] (.free 0 (.free 1 (.free 2 (.free 3 (.free 4 (.free 5 (.free 7 (.free 8 (.free 10 (.free 11 (.free 12 (.alt (.one 6 (.alt (.one 9 (.free 13 (.one 14 (.last 15)))) (.one 14 (.one 9 (.free 13 (.last 15)))))) (.one 14 (.one 6 (.one 9 (.free 13 (.last 15)))))))))))))))))
    (fun wx => Keep (· < w.heap.size) w wx) (by kernel_rfl) (by kernel_rfl) KK.out ?_
  iterate 2 (refine plan_free rfl rfl (fun K hK => ?_); go_simp; refine hK _ ?_; clear hK K)
  refine plan_held (.int .u8 (x0 : Int)) rfl rfl (fun w0 h0 => by have := (h0.cell (x := ⟨blk, off, none⟩) hblk).trans C00.out; go_simp) (fun K hK => ?_); refine hK _ ?_; clear hK K
  iterate 7 (refine plan_free rfl rfl (fun K hK => ?_); go_simp; refine hK _ ?_; clear hK K)
  obtain ⟨ab, hab⟩ : ∃ ab, (if c = 17 then some (⟨blk, off, none⟩ : Addr) else some ⟨blk, off + 17, none⟩) = ab := ⟨_, rfl⟩
  rw [hab]
  have CB := hid (show Cells w (fun b => b < w.heap.size) (.slice ab (n - 17) (c - 17)) (ints .u8 (b.drop 17)) by
    rw [← hab]
    split
    · have h0 : b.drop 17 = [] := List.drop_eq_nil_of_le (by rw [HC.out.2.1]; omega)
      rw [h0, show n - 17 = 0 by omega]
      exact ⟨_, _, _, rfl, rfl, Nat.zero_le _, by unfold maxLen; omega, fun h => absurd h (by decide)⟩
    · have := cells_sub (w := w) (p := fun b => b < w.heap.size) (blk := blk) (off := off) (cs := ints .u8 b) hblk (fun i hi => HC.out.1 i hi) 17 (n - 17) (c - 17) (by rw [ints_length, HC.out.2.1]; omega) (by omega) (by omega)
      rwa [ints_drop, ints_take, List.take_of_length_le (by rw [List.length_drop, HC.out.2.1]; exact Nat.le_refl _)] at this)
  clear hab
  refine plan_held (.string (bstr (b.drop 17))) rfl rfl (fun w0 h0 => by have := conv_bytes21 w0 (CB.out.keep h0 (fun _ h => h)); go_simp) (fun K hK => ?_); refine hK _ ?_; clear hK K
  try simp only [Act.put]
  refine ⟨?a0, ?a3⟩
  case' a0 =>
    refine plan_one rfl rfl (fun K hK => ?_); go_simp
    refine (NUM1.out _ KK.out).mono ?_
    rintro e wn ⟨rfl, rfl⟩
    refine hK _ _ ⟨KK.out, ?_⟩
    clear hK K
    try simp only [Act.put]
    refine ⟨?a1, ?a2⟩
  case' a1 =>
    refine plan_one rfl rfl (fun K hK => ?_); go_simp
    refine (NUM2.out _ KK.out).mono ?_
    rintro e wn ⟨rfl, rfl⟩
    refine hK _ _ ⟨KK.out, ?_⟩
    clear hK K
    try simp only [Act.put]
    refine plan_build rfl rfl 55 [(0, .tmp 15), (1, .tmp 18), (2, .tmp 21), (3, .tmp 24)] rfl (.agg (rqC (x0 : Int) zn zf (b.drop 17)).toArray) (fun w0 => build_req (x0 : Int) zn zf (b.drop 17) w0) (fun K hK => ?_); refine hK _ ?_; clear hK K
    refine plan_one rfl rfl (fun K hK => ?_); go_simp
    refine hK _ _ ⟨KK.out.alloc _ (fun _ h => Nat.lt_of_lt_of_le h KK.out.size), ?_⟩
    clear hK K
    try simp only [Act.put]
    refine plan_world (fun wx => Keep (· < w1.heap.size) w1 wx ∧ w1.heap.size < wx.heap.size ∧ wx.heap[w1.heap.size]? = some (.cells (rqC 0 0 0 []).toArray 55 (0, 0))) ⟨((Keep.refl _ _).drew).alloc _ (fun _ h => h), by simp, heap_alloc_new w1.drew _⟩ ?_
    rintro w3 ⟨k3, z3, r3⟩
    have KK := hid (H1.out.1.trans (k3.mono (fun b h => Nat.lt_trans h z1)))
    have H3 := hid (And.intro k3 (And.intro z3 r3))
    clear k3 z3 r3
    refine plan_last rfl rfl (fun K hK => ?_)
    refine wp_store_row 55 (.tmp 4) (.tmp 25) rfl w1.heap.size (rqC (x0 : Int) zn zf (b.drop 17)).toArray rfl rfl 55 _ H3.out.2.2 hiX rfl h1X ?_
    refine hK _ _ ?_
    clear hK K
    go_upto_region 4 with fail
    refine wp_world (fun w5 => Keep (· < w1.heap.size) w1 w5 ∧ w1.heap.size < w5.heap.size ∧ w5.heap[w1.heap.size]? = some (.cells (rqC (x0 : Int) zn zf (b.drop 17)).toArray 55 (0, 0))) ⟨H3.out.1.setRow _ (Nat.lt_irrefl _), Nat.lt_of_lt_of_le H3.out.2.1 (by simp), heap_setRow H3.out.2.2 _⟩ ?_
    clear H3 KK
    rintro w5 ⟨k5, z5, R5⟩
  case' a2 =>
    refine plan_one rfl rfl (fun K hK => ?_); go_simp
    refine hK _ _ ⟨KK.out.alloc _ (fun _ h => Nat.lt_of_lt_of_le h KK.out.size), ?_⟩
    clear hK K
    try simp only [Act.put]
    refine plan_world (fun wx => Keep (· < w1.heap.size) w1 wx ∧ w1.heap.size < wx.heap.size ∧ wx.heap[w1.heap.size]? = some (.cells (rqC 0 0 0 []).toArray 55 (0, 0))) ⟨((Keep.refl _ _).drew).alloc _ (fun _ h => h), by simp, heap_alloc_new w1.drew _⟩ ?_
    rintro w3 ⟨k3, z3, r3⟩
    have KK := hid (H1.out.1.trans (k3.mono (fun b h => Nat.lt_trans h z1)))
    have H3 := hid (And.intro k3 (And.intro z3 r3))
    clear k3 z3 r3
    refine plan_one rfl rfl (fun K hK => ?_); go_simp
    refine (NUM2.out _ KK.out).mono ?_
    rintro e wn ⟨rfl, rfl⟩
    refine hK _ _ ⟨KK.out, ?_⟩
    clear hK K
    try simp only [Act.put]
    refine plan_build rfl rfl 55 [(0, .tmp 15), (1, .tmp 18), (2, .tmp 21), (3, .tmp 24)] rfl (.agg (rqC (x0 : Int) zn zf (b.drop 17)).toArray) (fun w0 => build_req (x0 : Int) zn zf (b.drop 17) w0) (fun K hK => ?_); refine hK _ ?_; clear hK K
    refine plan_last rfl rfl (fun K hK => ?_)
    refine wp_store_row 55 (.tmp 4) (.tmp 25) rfl w1.heap.size (rqC (x0 : Int) zn zf (b.drop 17)).toArray rfl rfl 55 _ H3.out.2.2 hiX rfl h1X ?_
    refine hK _ _ ?_
    clear hK K
    go_upto_region 4 with fail
    refine wp_world (fun w5 => Keep (· < w1.heap.size) w1 w5 ∧ w1.heap.size < w5.heap.size ∧ w5.heap[w1.heap.size]? = some (.cells (rqC (x0 : Int) zn zf (b.drop 17)).toArray 55 (0, 0))) ⟨H3.out.1.setRow _ (Nat.lt_irrefl _), Nat.lt_of_lt_of_le H3.out.2.1 (by simp), heap_setRow H3.out.2.2 _⟩ ?_
    clear H3 KK
    rintro w5 ⟨k5, z5, R5⟩
  case' a3 =>
    refine plan_one rfl rfl (fun K hK => ?_); go_simp
    refine hK _ _ ⟨KK.out.alloc _ (fun _ h => Nat.lt_of_lt_of_le h KK.out.size), ?_⟩
    clear hK K
    try simp only [Act.put]
    refine plan_world (fun wx => Keep (· < w1.heap.size) w1 wx ∧ w1.heap.size < wx.heap.size ∧ wx.heap[w1.heap.size]? = some (.cells (rqC 0 0 0 []).toArray 55 (0, 0))) ⟨((Keep.refl _ _).drew).alloc _ (fun _ h => h), by simp, heap_alloc_new w1.drew _⟩ ?_
    rintro w3 ⟨k3, z3, r3⟩
    have KK := hid (H1.out.1.trans (k3.mono (fun b h => Nat.lt_trans h z1)))
    have H3 := hid (And.intro k3 (And.intro z3 r3))
    clear k3 z3 r3
    refine plan_one rfl rfl (fun K hK => ?_); go_simp
    refine (NUM1.out _ KK.out).mono ?_
    rintro e wn ⟨rfl, rfl⟩
    refine hK _ _ ⟨KK.out, ?_⟩
    clear hK K
    try simp only [Act.put]
    refine plan_one rfl rfl (fun K hK => ?_); go_simp
    refine (NUM2.out _ KK.out).mono ?_
    rintro e wn ⟨rfl, rfl⟩
    refine hK _ _ ⟨KK.out, ?_⟩
    clear hK K
    try simp only [Act.put]
    refine plan_build rfl rfl 55 [(0, .tmp 15), (1, .tmp 18), (2, .tmp 21), (3, .tmp 24)] rfl (.agg (rqC (x0 : Int) zn zf (b.drop 17)).toArray) (fun w0 => build_req (x0 : Int) zn zf (b.drop 17) w0) (fun K hK => ?_); refine hK _ ?_; clear hK K
    refine plan_last rfl rfl (fun K hK => ?_)
    refine wp_store_row 55 (.tmp 4) (.tmp 25) rfl w1.heap.size (rqC (x0 : Int) zn zf (b.drop 17)).toArray rfl rfl 55 _ H3.out.2.2 hiX rfl h1X ?_
    refine hK _ _ ?_
    clear hK K
    go_upto_region 4 with fail
    refine wp_world (fun w5 => Keep (· < w1.heap.size) w1 w5 ∧ w1.heap.size < w5.heap.size ∧ w5.heap[w1.heap.size]? = some (.cells (rqC (x0 : Int) zn zf (b.drop 17)).toArray 55 (0, 0))) ⟨H3.out.1.setRow _ (Nat.lt_irrefl _), Nat.lt_of_lt_of_le H3.out.2.1 (by simp), heap_setRow H3.out.2.2 _⟩ ?_
    clear H3 KK
    rintro w5 ⟨k5, z5, R5⟩
  all_goals
    have F5 := (k5.block _ z1).trans H1.out.2
    have kw5 := H1.out.1.trans (k5.mono (fun b h => Nat.lt_trans h z1))
    have H5 := hid (And.intro kw5 (And.intro R5 F5))
    have ce := (kw5.cell (x := ⟨11, 0, none⟩) hg).trans HE.out
    have CE := hid ce
    clear k5 R5 F5 kw5 ce
    go_wp2_with (refine wpList_load_row rfl 55 (.tmp 4) rfl w1.heap.size rfl 55 _ (0, 0) _ H5.out.2.1 Tryd.underlying55 rfl hiX ?_)
    refine (preq_walk (x0 : Int) zn zf (b.drop 17) w5 et ex (fun x hx => HX.out x (List.mem_of_mem_drop hx)) (by rw [List.length_drop, HC.out.2.1]; omega) CE.out (by have := H5.out.1.size; omega)).mono ?_
    rintro e w6 ⟨k6, ⟨ho, v6, rfl, _⟩ | ⟨ho, rfl⟩⟩
    · have H6 := hid (And.intro (H5.out.1.trans (k6.mono (fun b (h : b < w.heap.size) => by omega))) (And.intro ((k6.block _ z5).trans H5.out.2.1) ((k6.block _ (Nat.lt_trans z1 z5)).trans H5.out.2.2)))
      have HO := hid ho
      clear k6 ho H5
      go_wp2_with (first | refine wpList_load_row rfl 55 (.tmp 4) rfl w1.heap.size rfl 55 _ (0, 0) _ H6.out.2.1 Tryd.underlying55 rfl hiX ?_ | refine wpList_store_row rfl 55 (.tmp 2) (.tmp 35) rfl w.heap.size (rqC (x0 : Int) zn zf (b.drop 17)).toArray rfl rfl 55 _ H6.out.2.2 hiX rfl h1X ?_)
      refine bodyPost_ret (v := .tuple #[.agg (rqC (x0 : Int) zn zf (b.drop 17)).toArray, .nilIface]) (results_cell_row_tmp rfl _ _ w.heap.size 55 _ (0, 0) _ rfl (heap_setRow H6.out.2.2 _) Tryd.underlying55 rfl hiX _ rfl) rfl ?_
      exact ⟨H6.out.1.setRow _ (Nat.lt_irrefl _), .inl ⟨HO.out, rfl⟩⟩
    · have H6 := hid (And.intro (H5.out.1.trans (k6.mono (fun b (h : b < w.heap.size) => by omega))) ((k6.block _ (Nat.lt_trans z1 z5)).trans H5.out.2.2))
      have HO := hid ho
      clear k6 ho H5
      go_wp2_with (refine wpList_store_row rfl 55 (.tmp 2) (.tmp 33) rfl w.heap.size (rqC 0 0 0 []).toArray rfl rfl 55 _ H6.out.2 hi0 rfl h10 ?_)
      refine bodyPost_ret (v := .tuple #[.agg (rqC 0 0 0 []).toArray, .iface et ex]) (results_cell_row_tmp rfl _ _ w.heap.size 55 _ (0, 0) _ rfl (heap_setRow H6.out.2 _) Tryd.underlying55 rfl hi0 _ rfl) rfl ?_
      exact ⟨H6.out.1.setRow _ (Nat.lt_irrefl _), .inr ⟨HO.out, rfl⟩⟩
end Go.Proofs.YtnpneippahdigaaDoor
