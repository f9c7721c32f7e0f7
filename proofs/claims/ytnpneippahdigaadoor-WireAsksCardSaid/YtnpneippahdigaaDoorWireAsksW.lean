/-
  Step by step: the statement 'WireAsks'.
-/
import Derived.Test.YtnpneippahdigaaDoorWireS
import Derived.Test.YtnpneippahdigaaDoorWireT
import Derived.Test.YtnpneippahdigaaDoorReqEq
import Derived.Test.YtnpneippahdigaaDoorWireQ
import Derived.Test.YtnpneippahdigaaDoorWireE
import Derived.Test.YtnpneippahdigaaDoorWireH2
import Derived.Test.YtnpneippahdigaaDoorIn7
namespace Go.Proofs.Wr
theorem ask_req (k n f : Int) (text : List Nat) (hn : -9223372036854775808 ≤ n ∧ n ≤ 9223372036854775807) (hf : -9223372036854775808 ≤ f ∧ f ≤ 9223372036854775807) (h : reqOk k text = true) :
    isAsk (reqBytes k n f text) = true ∧ (((reqBytes k n f text).getD 0 0 : Nat) : Int) = k ∧ i64 (askN (reqBytes k n f text)) = n ∧ i64 (askF (reqBytes k n f text)) = f ∧ (reqBytes k n f text).drop 17 = text := by
  obtain ⟨h1, h2, h3, h4⟩ := (reqOk_iff k text).1 h
  have e0 : (((reqBytes k n f text).getD 0 0 : Nat) : Int) = k := by
    show ((u8 k : Nat) : Int) = k
    unfold u8; omega
  have e1 : ((reqBytes k n f text).drop 1).take 8 = Sha.be8 (u64 n) := by simp [reqBytes, Sha.be8]
  have e2 : ((reqBytes k n f text).drop 9).take 8 = Sha.be8 (u64 f) := by simp [reqBytes, Sha.be8]
  have e3 : (reqBytes k n f text).drop 17 = text := by simp [reqBytes, Sha.be8]
  refine ⟨?_, e0, ?_, ?_, e3⟩
  · unfold isAsk
    rw [e0, e3, h, reqBytes_length]
    simp
  · unfold askN; rw [e1, num8_be8 _ (u64_lt n), i64_u64 n hn.1 hn.2]
  · unfold askF; rw [e2, num8_be8 _ (u64_lt f), i64_u64 f hf.1 hf.2]
theorem req_lt (k n f : Int) (text : List Nat) (h : ∀ x ∈ text, x < 256) : ∀ x ∈ reqBytes k n f text, x < 256 := by
  have hb : ∀ m : Nat, ∀ x ∈ Sha.be8 m, x < 256 := by
    intro m x hx
    simp only [Sha.be8, List.mem_cons, List.not_mem_nil, or_false] at hx
    omega
  intro x hx
  rcases List.mem_cons.1 hx with rfl | hx
  · exact u8_lt k
  · rcases List.mem_append.1 hx with hx | hx
    · exact hb _ x hx
    · rcases List.mem_append.1 hx with hx | hx
      · exact hb _ x hx
      · exact h x hx
end Go.Proofs.Wr
namespace Go.Proofs.YtnpneippahdigaaDoor
open Go.RowKit Go.Proofs.Mem Go.Proofs.Txt

theorem i64_wf {n : Int} (h : (Lit.int .i64 n).wf = true) : -9223372036854775808 ≤ n ∧ n ≤ 9223372036854775807 := by
  simp [Lit.wf, IntKind.min, IntKind.max, IntKind.signed, IntKind.bits] at h
  omega
theorem ask_size (k n f : Int) (text : List Nat) (t s : Int) (bv : Value) : (Tryd.prog.info? 57).map (·.size) = some (askC k n f text t s bv).toArray.size := by
  rw [List.size_toArray]
  kernel_rfl

set_option maxRecDepth 100000 in
set_option maxHeartbeats 4000000 in
/-- the parts ahead of the requests. -/
theorem wireAsks_walk (k n f : Int) (text : List Nat) (t s : Int) (more : List Nat) (bv : Value) (xs : List Addr) (w : World) (p : Nat → Prop) (hx : ∀ x ∈ text, x < 256)
    (hn : -9223372036854775808 ≤ n ∧ n ≤ 9223372036854775807) (hf : -9223372036854775808 ≤ f ∧ f ≤ 9223372036854775807) (hT : TurnsAt w) (he : ErrsAt w errGs xs) (hd : xs.Nodup) (hbv : Cells w p bv (ints .u8 more)) :
    Calls Tryd.prog 7 #[.agg (askC k n f text t s bv).toArray] w fun e w' => e = .returned (.bool true) ∧ Keep (· < w.heap.size) w w' := by
  have HB := hid (hbv.lt.mono (q := fun b => b < w.heap.size) (fun _ h => h.1))
  have HT := hid hT
  have Hx := hid hx
  have HI := hid (And.intro hn hf)
  obtain ⟨et, ex, hev⟩ : ∃ et ex, errV xs 11 = .iface et ex := ⟨_, _, rfl⟩
  have EE := hid (show ∀ w0 : World, Keep (· < w.heap.size) w w0 → w0.cell? ⟨11, 0, none⟩ = some (.iface et ex) ∧ 11 < w0.heap.size from fun w0 k => by
    have := errs_at (he.keep k (fun _ h => h)) 10 _ rfl
    rwa [hev] at this)
  have NE := hid (show ∀ w0 : World, Keep (· < w.heap.size) w w0 → Calls Tryd.prog 19 #[.iface et ex] w0 (fun e w' => e = .returned (.int .i64 11) ∧ Keep (· < w0.heap.size) w0 w') from fun w0 k => by
    have := num_err xs 11 w0 (by decide) (he.keep k (fun _ h => h)) hd
    rw [hev] at this
    exact this)
  have hlx : xs.length = 17 := he.length
  obtain ⟨aq, haq⟩ : ∃ a, xs[15]? = some a := ⟨_, List.getElem?_eq_getElem (by omega)⟩
  obtain ⟨ar, har⟩ : ∃ a, xs[0]? = some a := ⟨_, List.getElem?_eq_getElem (by omega)⟩
  have EQ := hid (show ∀ w0 : World, Keep (· < w.heap.size) w w0 → w0.cell? ⟨0, 0, none⟩ = some (.iface 217 (.pointer (some aq))) ∧ w0.cell? ⟨1, 0, none⟩ = some (.iface 217 (.pointer (some ar))) from fun w0 k => by
    have h1 := (errs_at (he.keep k (fun _ h => h)) 15 _ rfl).1
    have h2 := (errs_at (he.keep k (fun _ h => h)) 0 _ rfl).1
    simp only [errV, haq, har] at h1 h2
    exact ⟨h1, h2⟩)
  have HE := hid (show ∀ w0 : World, Keep (· < w.heap.size) w w0 → ErrsAt w0 errGs xs from fun w0 k => he.keep k (fun _ h => h))
  have HN := hid (And.intro hd (And.intro haq har))
  obtain ⟨ba, bn, bc, rfl⟩ := cells_form hbv
  have hbn : bn = more.length := by
    obtain ⟨_, _, _, e, h1, _⟩ := id hbv
    injection e with _ e2 _
    rw [e2, h1, ints_length]
  have HBN := hid hbn
  have es := bstr_size text
  clear hbv hT he hd hev hx hn hf hlx haq har hbn
  go_enter Tryd.func7, Tryd.ntmps7
  go_upto_region 1 with fail
  refine wp_world (fun w1 => Keep (· < w.heap.size) w w1 ∧ w1.heap[w.heap.size]? = some (.cells (askC k n f text t s (.slice ba bn bc)).toArray 57 (0, 0)) ∧ w.heap.size < w1.heap.size) ⟨(Keep.refl _ _).alloc _ (fun _ h => h), heap_alloc_new w _, by simp⟩ ?_
  rintro w1 ⟨k1, A1, z1⟩
  have SS := hid (show ∀ wx : World, Keep (· < w1.heap.size) w1 wx → wx.rangeAt w.heap.size 0 (rqC k n f text) ∧ wx.cell? ⟨w.heap.size, 4, none⟩ = some (.int .i64 t) ∧ wx.cell? ⟨w.heap.size, 5, none⟩ = some (.int .i64 s) ∧ wx.cell? ⟨w.heap.size, 6, none⟩ = some (.slice ba bn bc) from fun wx kx => by
    have h := (kx.block _ z1).trans A1
    refine ⟨?_, cell_at h 4, cell_at h 5, cell_at h 6⟩
    have := range_at h 0 4
    exact this)
  have K1 := hid k1
  clear k1 A1
  have hiQ := rq_size k n f text
  have h1Q := rq_one k n f text
  refine wp_region_plan [true, true, true, true, true, true, true, true, false, false, false, false, false] (.free 0 (.free 1 (.free 2 (.free 3 (.free 4 (.free 5 (.free 6 (.free 7 (.one 8 (.one 9 (.one 10 (.one 11 (.last 12)))))))))))))
    (fun wx => Keep (· < w1.heap.size) w1 wx) (by kernel_rfl) (by kernel_rfl) (Keep.refl _ _).drew ?_
  refine plan_free rfl rfl (fun K hK => ?_); go_simp; refine hK _ ?_; clear hK K
  refine plan_load rfl rfl 55 (.tmp 13) rfl w.heap.size 0 rfl (rqC k n f text) _ (fun w0 h0 => (SS.out w0 h0).1) Tryd.underlying55 rfl hiQ (fun K hK => ?_); go_simp; refine hK _ ?_; clear hK K
  refine plan_free rfl rfl (fun K hK => ?_); go_simp; refine hK _ ?_; clear hK K
  refine plan_held (.int .i64 t) rfl rfl (fun w0 h0 => by obtain ⟨q0, q1, q2, q3⟩ := SS.out w0 h0; clear h0 q0; go_simp) (fun K hK => ?_); go_simp; refine hK _ ?_; clear hK K
  refine plan_free rfl rfl (fun K hK => ?_); go_simp; refine hK _ ?_; clear hK K
  refine plan_held (.int .i64 s) rfl rfl (fun w0 h0 => by obtain ⟨q0, q1, q2, q3⟩ := SS.out w0 h0; clear h0 q0; go_simp) (fun K hK => ?_); go_simp; refine hK _ ?_; clear hK K
  refine plan_free rfl rfl (fun K hK => ?_); go_simp; refine hK _ ?_; clear hK K
  refine plan_held (.slice ba bn bc) rfl rfl (fun w0 h0 => by obtain ⟨q0, q1, q2, q3⟩ := SS.out w0 h0; clear h0 q0; go_simp) (fun K hK => ?_); go_simp; refine hK _ ?_; clear hK K
  refine plan_one rfl rfl (fun K hK => ?_); go_simp
  refine hK _ _ ⟨((Keep.refl _ _).drew).alloc _ (fun _ h => h), ?_⟩
  clear hK K
  refine plan_store_row rfl rfl 55 (.tmp 3) (.tmp 14) rfl w1.heap.size (rqC k n f text).toArray rfl rfl 55 _ (heap_alloc_new w1.drew _) hiQ rfl h1Q ⟨(((Keep.refl _ _).drew).alloc _ (fun _ h => h)).setRow _ (by simp), ?_⟩
  refine plan_world (fun w2 => Keep (· < w1.heap.size) w1 w2 ∧ w2.heap[w1.heap.size]? = some (.cells (rqC k n f text).toArray 55 (0, 0)) ∧ w1.heap.size < w2.heap.size) ⟨(((Keep.refl _ _).drew).alloc _ (fun _ h => h)).setRow _ (by simp), heap_setRow (heap_alloc_new w1.drew _) _, by simp⟩ ?_
  rintro w2 ⟨k2, R2, z2⟩
  refine plan_one rfl rfl (fun K hK => ?_); go_simp; refine hK _ _ ⟨k2, ?_⟩; clear hK K
  refine plan_one rfl rfl (fun K hK => ?_); go_simp; refine hK _ _ ⟨k2, ?_⟩; clear hK K
  refine plan_last rfl rfl (fun K hK => ?_); go_simp; refine hK _ _ ?_; clear hK K
  obtain ⟨R, hR⟩ : ∃ R, w1.heap.size = R := ⟨_, rfl⟩
  have zR : w.heap.size ≤ R := by omega
  have H2 := hid (And.intro (K1.out.trans (k2.mono (fun b h => Nat.lt_trans h z1))) R2)
  rw [hR] at z2 H2 ⊢
  clear k2 R2 hR SS z1 K1
  go_wp2_with fail
  refine (alive21_walk w2 (HT.out.keep H2.out.1 HT.out.lt)).mono ?_
  rintro e w3 ⟨rfl, k3⟩
  have H3 := hid (And.intro (H2.out.1.trans (k3.mono (fun b h => by omega))) ((k3.block _ z2).trans H2.out.2))
  have z3 := Nat.lt_of_lt_of_le z2 k3.size
  have r3 : w3.cell? ⟨R, 3, none⟩ = some (.string (bstr text)) := cell_at H3.out.2 3
  clear k3 H2 z2
  by_cases c1 : 20000 < text.length
  · have t1 : decide ((20000 : Int) < (text.length : Int)) = true := by simp; omega
    go_wp2_with fail
    go_ret
    exact ⟨rfl, H3.out.1⟩
  have t1 : decide ((20000 : Int) < (text.length : Int)) = false := by simp; omega
  by_cases c2 : 2000 < bn
  · have t2 : decide ((2000 : Int) < (bn : Int)) = true := by simp; omega
    go_wp2_with fail
    go_ret
    exact ⟨rfl, H3.out.1⟩
  have t2 : decide ((2000 : Int) < (bn : Int)) = false := by simp; omega
  have HL := hid (show text.length ≤ 20000 ∧ more.length ≤ 2000 by have := HBN.out; omega)
  clear c1 c2
  go_wp2_with (refine wpList_load_row rfl 55 (.tmp 3) rfl R rfl 55 _ (0, 0) _ H3.out.2 Tryd.underlying55 rfl hiQ ?_)
  clear t1 t2 r3
  refine (preq_walk k n f text w3 et ex Hx.out (by have := HL.out; omega) (EE.out w3 H3.out.1).1 (EE.out w3 H3.out.1).2).mono ?_
  rintro e w4 ⟨k4, hcase⟩
  rcases hcase with ⟨ho, pv, rfl, cp⟩ | ⟨ho, rfl⟩
  case' inl =>
    have HO := hid ho
    obtain ⟨pa, pn, pc, rfl⟩ := cells_form cp
    have H4 := hid (And.intro (H3.out.1.trans (k4.mono (fun b (h : b < w.heap.size) => by omega))) (And.intro ((k4.block _ z3).trans H3.out.2) (cp.lt.mono (q := fun b => b < w4.heap.size) (fun _ h => h.1))))
    have z4 := Nat.lt_of_lt_of_le z3 k4.size
    clear k4 ho cp z3 H3
    go_wp2_with (refine wpList_load_row rfl 55 (.tmp 3) rfl R rfl 55 _ (0, 0) _ H4.out.2.1 Tryd.underlying55 rfl hiQ ?_)
    refine (rreq_good k n f text w4 Hx.out HO.out).mono ?_
    rintro e w5 ⟨rv, rfl, fr, k5⟩
    obtain ⟨ra, rn, rc, rfl⟩ := cells_form fr.cells
    have H5 := hid (And.intro (H4.out.1.trans (k5.mono (fun b (h : b < w.heap.size) => by omega))) (And.intro ((k5.block _ z4).trans H4.out.2.1) (And.intro (H4.out.2.2.keep k5 (fun _ h => h)) fr.cells)))
    have z5 := Nat.lt_of_lt_of_le z4 k5.size
    clear k5 fr z4 H4
    go_wp2_with fail
    refine (sameb_walk _ _ _ w5 _ _ H5.out.2.2.1 H5.out.2.2.2).mono ?_
    rintro e w6 ⟨rfl, rfl⟩
    go_wp2_with fail
    have AQ := hid (Wr.ask_req k n f text HI.out.1 HI.out.2 HO.out)
    have hal := Wr.reqBytes_length k n f text
    refine (greq_walk _ (Wr.reqBytes k n f text) w5 et ex _ (Wr.req_lt k n f text Hx.out) (by rw [hal]; have := HL.out; omega) H5.out.2.2.1 (EE.out w5 H5.out.1).1 (EE.out w5 H5.out.1).2).mono ?_
    rintro e w7 ⟨k7, ⟨ha, he7⟩ | ⟨ha, he7⟩⟩
    rotate_left 1
    · rw [AQ.out.1] at ha; cases ha
    rw [AQ.out.2.1, AQ.out.2.2.1, AQ.out.2.2.2.1, AQ.out.2.2.2.2] at he7
    subst he7
    have H7 := hid (And.intro (H5.out.1.trans (k7.mono (fun b (h : b < w.heap.size) => by omega))) ((k7.block _ z5).trans H5.out.2.1))
    have z7 := Nat.lt_of_lt_of_le z5 k7.size
    clear k7 ha hal AQ z5 H5
    go_upto_region 12 with (refine wpList_store_row rfl 55 (.tmp 11) (.tmp 65) rfl w7.heap.size (rqC k n f text).toArray rfl rfl 55 _ (heap_alloc_new w7 _) hiQ rfl h1Q ?_)
    refine wp_world (fun w8 => Keep (· < w7.heap.size) w7 w8 ∧ w8.heap[w7.heap.size]? = some (.cells (rqC k n f text).toArray 55 (0, 0))) ⟨((Keep.refl _ _).alloc _ (fun _ h => h)).setRow _ (by simp), heap_setRow (heap_alloc_new w7 _) _⟩ ?_
    rintro w8 ⟨k8, Q8⟩
    obtain ⟨Q, hQ⟩ : ∃ Q, w7.heap.size = Q := ⟨_, rfl⟩
    have H8 := hid (And.intro (H7.out.1.trans (k8.mono (fun b (h : b < w.heap.size) => by omega))) (And.intro ((k8.block _ z7).trans H7.out.2) Q8))
    rw [hQ] at H8 ⊢
    clear k8 Q8 H7 hQ z7
    have hne := fun w0 => neq_req k n f text w0
    have ld := req_guard
    go_upto_region 14 with (first | refine wpList_load_row_if (by rfl) 55 (.tmp 11) rfl Q rfl 55 _ (0, 0) _ H8.out.2.2 Tryd.underlying55 rfl hiQ ?_ | refine wpList_load_row_if (by rfl) 55 (.tmp 3) rfl R rfl 55 _ (0, 0) _ H8.out.2.1 Tryd.underlying55 rfl hiQ ?_)
    clear hne ld
    obtain ⟨wz, hwz⟩ : ∃ wz, w8 = wz := ⟨_, rfl⟩
    have HZ := hid (show Keep (· < w.heap.size) w wz from hwz ▸ H8.out.1)
    rw [hwz]
    clear hwz H8
  case' inr =>
    have HO := hid ho
    have H4 := hid (And.intro (H3.out.1.trans (k4.mono (fun b (h : b < w.heap.size) => by omega))) ((k4.block _ z3).trans H3.out.2))
    have z4 := Nat.lt_of_lt_of_le z3 k4.size
    clear k4 ho z3 H3
    go_wp2_with (refine wpList_load_row rfl 55 (.tmp 3) rfl R rfl 55 _ (0, 0) _ H4.out.2 Tryd.underlying55 rfl hiQ ?_)
    refine (rreq_bad k n f text w4 Hx.out (by have := HL.out; omega) HO.out).mono ?_
    rintro e w5 ⟨rfl, k5⟩
    have H5 := hid (H4.out.1.trans (k5.mono (fun b (h : b < w.heap.size) => by omega)))
    clear k5 z4 H4
    go_wp2_with fail
    refine (NE.out w5 H5.out).mono ?_
    rintro e w6 ⟨rfl, k6⟩
    have H6 := hid (H5.out.trans (k6.mono (fun b h => Nat.lt_of_lt_of_le h H5.out.size)))
    clear k6 H5
    go_wp2_with fail
    refine (sameb_walk _ _ [] w6 (fun _ => True) (fun _ => True) (Cells.nil _ _) (Cells.nil _ _)).mono ?_
    rintro e w7 ⟨rfl, rfl⟩
    go_upto_region 14 with fail
    obtain ⟨wz, hwz⟩ : ∃ wz, w6 = wz := ⟨_, rfl⟩
    have HZ := hid (show Keep (· < w.heap.size) w wz from hwz ▸ H6.out)
    rw [hwz]
    clear hwz H6
  all_goals
  -- GEN
    refine wp_region_plan [true, true, true, false, false, true, true, true, false, false, true, true, true, true, true, false, false, true, true, false, false, true, true, true, true, true, true, true, false, false, true, true, true, false, false, true, true, false] (.free 0 (.free 1 (.free 2 (.free 5 (.free 6 (.free 7 (.pool [3, 4, 8, 9] (.free 10 (.free 11 (.free 12 (.free 13 (.free 14 (.free 17 (.free 18 (.pool [15, 16, 19, 20] (.free 21 (.free 22 (.free 23 (.free 24 (.free 25 (.free 26 (.free 27 (.free 30 (.free 31 (.free 32 (.pool [28, 29, 33, 34] (.free 35 (.free 36 (.last 37)))))))))))))))))))))))))))))
      (fun wx => Keep (· < wz.heap.size) wz wx) (by kernel_rfl) (by kernel_rfl) (Keep.refl _ _).drew ?_
    refine plan_free rfl rfl (fun K hK => ?_); go_simp; refine hK _ ?_; clear hK K
    refine plan_free rfl rfl (fun K hK => ?_); go_simp; refine hK _ ?_; clear hK K
    refine plan_free rfl rfl (fun K hK => ?_); go_simp; refine hK _ ?_; clear hK K
    refine plan_free rfl rfl (fun K hK => ?_); go_simp; refine hK _ ?_; clear hK K
    refine plan_free rfl rfl (fun K hK => ?_); go_simp; refine hK _ ?_; clear hK K
    refine plan_free rfl rfl (fun K hK => ?_); go_simp; refine hK _ ?_; clear hK K
    have kk0 : Keep (· < wz.heap.size) wz (wz.drew) := ((Keep.refl (· < wz.heap.size) wz).drew)
    refine plan_pool _ (fun i => 74 + i) [3, 4, 8, 9] [3, 8] (fun i => if i = 3 then Fact.row _ 5 (ints .u8 (Wr.respBytes t s 0 more)) else if i = 8 then Fact.row _ 5 (ints .u8 (Wr.respBytes t s 0 more)) else Fact.is _ (.string (bstr (Wr.respBytes t s 0 more)))) (fun _ => []) (fun i => if i = 4 then [3] else if i = 9 then [8] else []) (by kernel_rfl) ⟨rfl, rfl, rfl, rfl⟩ rfl (fun wx hx => kk0.trans (hx.mono (fun b h => Nat.lt_of_lt_of_le h kk0.size))) ⟨?pa0, ?pb0, ?pc0, ?pd0⟩ ?pe0
    case pa0 =>
      intro vs wx hk _ K hK
      refine pool_op rfl rfl ?_
      simp only [putAll]
      go_simp
      have kw : Keep (· < w.heap.size) w wx := HZ.out.trans ((kk0.trans (hk.mono (fun b h => Nat.lt_of_lt_of_le h kk0.size))).mono (fun b h => Nat.lt_of_lt_of_le h HZ.out.size))
      refine (respond_walk t s .nilIface (.slice ba bn bc) 17 more xs wx _ (by have := HL.out; omega) (HB.out.keep kw (fun _ h => h)) (HE.out wx kw) HN.out.1 (.inl ⟨rfl, rfl⟩) (by decide)).mono ?_
      rintro e wy ⟨v', rfl, fr, ky, _⟩
      exact hK _ _ (pool_row fr.row ky fr.own hk.size)
    case pb0 =>
      intro vs wx hk h3 K hK
      refine pool_op rfl rfl ?_
      simp only [putAll]
      obtain ⟨r3, o3⟩ : Row wx 5 (vs 3) (ints .u8 (Wr.respBytes t s 0 more)) ∧ _ := h3
      have cv : (convert 32 9 (vs 3)).run Tryd.prog wx = .ok (.string (bstr (Wr.respBytes t s 0 more))) wx := by
        obtain ⟨a3, c3, e3⟩ := r3.form
        rw [e3] at r3 ⊢
        exact conv_bytes21 wx r3.cells
      clear o3 r3
      go_simp
      exact hK _ _ (pool_is (Keep.refl _ _))
    case pd0 =>
      intro vs wx hk h3 K hK
      refine pool_op rfl rfl ?_
      simp only [putAll]
      obtain ⟨r3, o3⟩ : Row wx 5 (vs 8) (ints .u8 (Wr.respBytes t s 0 more)) ∧ _ := h3
      have cv : (convert 32 9 (vs 8)).run Tryd.prog wx = .ok (.string (bstr (Wr.respBytes t s 0 more))) wx := by
        obtain ⟨a3, c3, e3⟩ := r3.form
        rw [e3] at r3 ⊢
        exact conv_bytes21 wx r3.cells
      clear o3 r3
      go_simp
      exact hK _ _ (pool_is (Keep.refl _ _))
    case pc0 =>
      intro vs wx hk _ K hK
      refine pool_op rfl rfl ?_
      simp only [putAll]
      go_simp
      have kw : Keep (· < w.heap.size) w wx := HZ.out.trans ((kk0.trans (hk.mono (fun b h => Nat.lt_of_lt_of_le h kk0.size))).mono (fun b h => Nat.lt_of_lt_of_le h HZ.out.size))
      refine (rresp_walk t s 0 (.slice ba bn bc) more wx _ (by have := HL.out; omega) (HB.out.keep kw (fun _ h => h))).mono ?_
      rintro e wy ⟨v', rfl, fr, ky, _⟩
      exact hK _ _ (pool_row fr.row ky fr.own hk.size)
    case pe0 =>
      intro vs y0 ky0 hT hD
      obtain ⟨_, hb, _, hd⟩ := hT
      have hb : vs 4 = .string (bstr (Wr.respBytes t s 0 more)) := hb
      have hd : vs 9 = .string (bstr (Wr.respBytes t s 0 more)) := hd
      simp only [putAll, List.foldl, Act.put, Nat.reduceAdd, hb, hd]
      obtain ⟨ua, hua⟩ : ∃ v, vs 3 = v := ⟨_, rfl⟩
      obtain ⟨ub, hub⟩ : ∃ v, vs 8 = v := ⟨_, rfl⟩
      rw [hua, hub]
      clear hb hd hD hua hub
      have eb : ((bstr (Wr.respBytes t s 0 more)).toList == (bstr (Wr.respBytes t s 0 more)).toList) = true := by simp
      go_simp
      refine plan_free rfl rfl (fun K hK => ?_); go_simp; refine hK _ ?_; clear hK K
      refine plan_free rfl rfl (fun K hK => ?_); go_simp; refine hK _ ?_; clear hK K
      refine plan_free rfl rfl (fun K hK => ?_); go_simp; refine hK _ ?_; clear hK K
      refine plan_free rfl rfl (fun K hK => ?_); go_simp; refine hK _ ?_; clear hK K
      refine plan_held (.iface 217 (.pointer (some aq))) rfl rfl (fun w0 h0 => by obtain ⟨q1, q2⟩ := EQ.out w0 (HZ.out.trans (h0.mono (fun b h => Nat.lt_of_lt_of_le h HZ.out.size))); clear h0; go_simp) (fun K hK => ?_); go_simp; refine hK _ ?_; clear hK K
      refine plan_free rfl rfl (fun K hK => ?_); go_simp; refine hK _ ?_; clear hK K
      refine plan_free rfl rfl (fun K hK => ?_); go_simp; refine hK _ ?_; clear hK K
      have kk1 : Keep (· < wz.heap.size) wz (y0) := (kk0.trans (ky0.mono (fun b h => Nat.lt_of_lt_of_le h kk0.size)))
      refine plan_pool _ (fun i => 74 + i) [15, 16, 19, 20] [15, 19] (fun i => if i = 15 then Fact.row _ 5 (ints .u8 (Wr.respBytes t s 16 [])) else if i = 19 then Fact.row _ 5 (ints .u8 (Wr.respBytes t s 16 [])) else Fact.is _ (.string (bstr (Wr.respBytes t s 16 [])))) (fun _ => []) (fun i => if i = 16 then [15] else if i = 20 then [19] else []) (by kernel_rfl) ⟨rfl, rfl, rfl, rfl⟩ rfl (fun wx hx => kk1.trans (hx.mono (fun b h => Nat.lt_of_lt_of_le h kk1.size))) ⟨?pa1, ?pb1, ?pc1, ?pd1⟩ ?pe1
      case pa1 =>
        intro vs wx hk _ K hK
        refine pool_op rfl rfl ?_
        simp only [putAll]
        go_simp
        have kw : Keep (· < w.heap.size) w wx := HZ.out.trans ((kk1.trans (hk.mono (fun b h => Nat.lt_of_lt_of_le h kk1.size))).mono (fun b h => Nat.lt_of_lt_of_le h HZ.out.size))
        refine (respond_walk t s (.iface 217 (.pointer (some aq))) (.slice none 0 0) 15 [] xs wx (fun _ => True) (by decide) (Cells.nil _ _) (HE.out wx kw) HN.out.1 (.inr ⟨aq, rfl, HN.out.2.1⟩) (by decide)).mono ?_
        rintro e wy ⟨v', rfl, fr, ky, _⟩
        exact hK _ _ (pool_row fr.row ky fr.own hk.size)
      case pb1 =>
        intro vs wx hk h3 K hK
        refine pool_op rfl rfl ?_
        simp only [putAll]
        obtain ⟨r3, o3⟩ : Row wx 5 (vs 15) (ints .u8 (Wr.respBytes t s 16 [])) ∧ _ := h3
        have cv : (convert 32 9 (vs 15)).run Tryd.prog wx = .ok (.string (bstr (Wr.respBytes t s 16 []))) wx := by
          obtain ⟨a3, c3, e3⟩ := r3.form
          rw [e3] at r3 ⊢
          exact conv_bytes21 wx r3.cells
        clear o3 r3
        go_simp
        exact hK _ _ (pool_is (Keep.refl _ _))
      case pd1 =>
        intro vs wx hk h3 K hK
        refine pool_op rfl rfl ?_
        simp only [putAll]
        obtain ⟨r3, o3⟩ : Row wx 5 (vs 19) (ints .u8 (Wr.respBytes t s 16 [])) ∧ _ := h3
        have cv : (convert 32 9 (vs 19)).run Tryd.prog wx = .ok (.string (bstr (Wr.respBytes t s 16 []))) wx := by
          obtain ⟨a3, c3, e3⟩ := r3.form
          rw [e3] at r3 ⊢
          exact conv_bytes21 wx r3.cells
        clear o3 r3
        go_simp
        exact hK _ _ (pool_is (Keep.refl _ _))
      case pc1 =>
        intro vs wx hk _ K hK
        refine pool_op rfl rfl ?_
        simp only [putAll]
        go_simp
        have kw : Keep (· < w.heap.size) w wx := HZ.out.trans ((kk1.trans (hk.mono (fun b h => Nat.lt_of_lt_of_le h kk1.size))).mono (fun b h => Nat.lt_of_lt_of_le h HZ.out.size))
        refine (rresp_walk t s 16 (.slice none 0 0) [] wx (fun _ => True) (by decide) (Cells.nil _ _)).mono ?_
        rintro e wy ⟨v', rfl, fr, ky, _⟩
        exact hK _ _ (pool_row fr.row ky fr.own hk.size)
      case pe1 =>
        intro vs y1 ky1 hT hD
        obtain ⟨_, hb, _, hd⟩ := hT
        have hb : vs 16 = .string (bstr (Wr.respBytes t s 16 [])) := hb
        have hd : vs 20 = .string (bstr (Wr.respBytes t s 16 [])) := hd
        simp only [putAll, List.foldl, Act.put, Nat.reduceAdd, hb, hd]
        obtain ⟨ua, hua⟩ : ∃ v, vs 15 = v := ⟨_, rfl⟩
        obtain ⟨ub, hub⟩ : ∃ v, vs 19 = v := ⟨_, rfl⟩
        rw [hua, hub]
        clear hb hd hD hua hub
        have eb : ((bstr (Wr.respBytes t s 16 [])).toList == (bstr (Wr.respBytes t s 16 [])).toList) = true := by simp
        go_simp
        refine plan_free rfl rfl (fun K hK => ?_); go_simp; refine hK _ ?_; clear hK K
        refine plan_free rfl rfl (fun K hK => ?_); go_simp; refine hK _ ?_; clear hK K
        refine plan_free rfl rfl (fun K hK => ?_); go_simp; refine hK _ ?_; clear hK K
        refine plan_free rfl rfl (fun K hK => ?_); go_simp; refine hK _ ?_; clear hK K
        refine plan_free rfl rfl (fun K hK => ?_); go_simp; refine hK _ ?_; clear hK K
        refine plan_held (.iface 217 (.pointer (some ar))) rfl rfl (fun w0 h0 => by obtain ⟨q1, q2⟩ := EQ.out w0 (HZ.out.trans (h0.mono (fun b h => Nat.lt_of_lt_of_le h HZ.out.size))); clear h0; go_simp) (fun K hK => ?_); go_simp; refine hK _ ?_; clear hK K
        refine plan_free rfl rfl (fun K hK => ?_); go_simp; refine hK _ ?_; clear hK K
        refine plan_free rfl rfl (fun K hK => ?_); go_simp; refine hK _ ?_; clear hK K
        refine plan_free rfl rfl (fun K hK => ?_); go_simp; refine hK _ ?_; clear hK K
        refine plan_free rfl rfl (fun K hK => ?_); go_simp; refine hK _ ?_; clear hK K
        have kk2 : Keep (· < wz.heap.size) wz (y1) := (kk1.trans (ky1.mono (fun b h => Nat.lt_of_lt_of_le h kk1.size)))
        refine plan_pool _ (fun i => 74 + i) [28, 29, 33, 34] [28, 33] (fun i => if i = 28 then Fact.row _ 5 (ints .u8 (Wr.respBytes t s 1 more)) else if i = 33 then Fact.row _ 5 (ints .u8 (Wr.respBytes t s 1 more)) else Fact.is _ (.string (bstr (Wr.respBytes t s 1 more)))) (fun _ => []) (fun i => if i = 29 then [28] else if i = 34 then [33] else []) (by kernel_rfl) ⟨rfl, rfl, rfl, rfl⟩ rfl (fun wx hx => kk2.trans (hx.mono (fun b h => Nat.lt_of_lt_of_le h kk2.size))) ⟨?pa2, ?pb2, ?pc2, ?pd2⟩ ?pe2
        case pa2 =>
          intro vs wx hk _ K hK
          refine pool_op rfl rfl ?_
          simp only [putAll]
          go_simp
          have kw : Keep (· < w.heap.size) w wx := HZ.out.trans ((kk2.trans (hk.mono (fun b h => Nat.lt_of_lt_of_le h kk2.size))).mono (fun b h => Nat.lt_of_lt_of_le h HZ.out.size))
          refine (respond_walk t s (.iface 217 (.pointer (some ar))) (.slice ba bn bc) 0 more xs wx _ (by have := HL.out; omega) (HB.out.keep kw (fun _ h => h)) (HE.out wx kw) HN.out.1 (.inr ⟨ar, rfl, HN.out.2.2⟩) (by decide)).mono ?_
          rintro e wy ⟨v', rfl, fr, ky, _⟩
          exact hK _ _ (pool_row fr.row ky fr.own hk.size)
        case pb2 =>
          intro vs wx hk h3 K hK
          refine pool_op rfl rfl ?_
          simp only [putAll]
          obtain ⟨r3, o3⟩ : Row wx 5 (vs 28) (ints .u8 (Wr.respBytes t s 1 more)) ∧ _ := h3
          have cv : (convert 32 9 (vs 28)).run Tryd.prog wx = .ok (.string (bstr (Wr.respBytes t s 1 more))) wx := by
            obtain ⟨a3, c3, e3⟩ := r3.form
            rw [e3] at r3 ⊢
            exact conv_bytes21 wx r3.cells
          clear o3 r3
          go_simp
          exact hK _ _ (pool_is (Keep.refl _ _))
        case pd2 =>
          intro vs wx hk h3 K hK
          refine pool_op rfl rfl ?_
          simp only [putAll]
          obtain ⟨r3, o3⟩ : Row wx 5 (vs 33) (ints .u8 (Wr.respBytes t s 1 more)) ∧ _ := h3
          have cv : (convert 32 9 (vs 33)).run Tryd.prog wx = .ok (.string (bstr (Wr.respBytes t s 1 more))) wx := by
            obtain ⟨a3, c3, e3⟩ := r3.form
            rw [e3] at r3 ⊢
            exact conv_bytes21 wx r3.cells
          clear o3 r3
          go_simp
          exact hK _ _ (pool_is (Keep.refl _ _))
        case pc2 =>
          intro vs wx hk _ K hK
          refine pool_op rfl rfl ?_
          simp only [putAll]
          go_simp
          have kw : Keep (· < w.heap.size) w wx := HZ.out.trans ((kk2.trans (hk.mono (fun b h => Nat.lt_of_lt_of_le h kk2.size))).mono (fun b h => Nat.lt_of_lt_of_le h HZ.out.size))
          refine (rresp_walk t s 1 (.slice ba bn bc) more wx _ (by have := HL.out; omega) (HB.out.keep kw (fun _ h => h))).mono ?_
          rintro e wy ⟨v', rfl, fr, ky, _⟩
          exact hK _ _ (pool_row fr.row ky fr.own hk.size)
        case pe2 =>
          intro vs y2 ky2 hT hD
          obtain ⟨_, hb, _, hd⟩ := hT
          have hb : vs 29 = .string (bstr (Wr.respBytes t s 1 more)) := hb
          have hd : vs 34 = .string (bstr (Wr.respBytes t s 1 more)) := hd
          simp only [putAll, List.foldl, Act.put, Nat.reduceAdd, hb, hd]
          obtain ⟨ua, hua⟩ : ∃ v, vs 28 = v := ⟨_, rfl⟩
          obtain ⟨ub, hub⟩ : ∃ v, vs 33 = v := ⟨_, rfl⟩
          rw [hua, hub]
          clear hb hd hD hua hub
          have eb : ((bstr (Wr.respBytes t s 1 more)).toList == (bstr (Wr.respBytes t s 1 more)).toList) = true := by simp
          go_simp
          refine plan_free rfl rfl (fun K hK => ?_); go_simp; refine hK _ ?_; clear hK K
          refine plan_free rfl rfl (fun K hK => ?_); go_simp; refine hK _ ?_; clear hK K
          have HQ := hid (kk2.trans (ky2.mono (fun b h => Nat.lt_of_lt_of_le h kk2.size)))
          refine plan_last rfl rfl (fun K hK => ?_); go_simp; refine hK _ _ ?_; clear hK K
          go_wp2_with fail
          go_ret
          exact ⟨rfl, HZ.out.trans (HQ.out.mono (fun b h => Nat.lt_of_lt_of_le h HZ.out.size))⟩
end Go.Proofs.YtnpneippahdigaaDoor
