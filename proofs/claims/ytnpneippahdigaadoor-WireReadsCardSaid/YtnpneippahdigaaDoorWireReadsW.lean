/-
  Step by step: the statement 'WireReads'. (Under way.)
-/
import Derived.Test.YtnpneippahdigaaDoorWireM
import Derived.Test.YtnpneippahdigaaDoorWireQ
import Derived.Test.YtnpneippahdigaaDoorWireL
import Derived.Test.YtnpneippahdigaaDoorWireH2
import Derived.Test.YtnpneippahdigaaDoorWireI
import Derived.Test.YtnpneippahdigaaDoorWireE
import Derived.Test.YtnpneippahdigaaDoorBytesK
import Derived.Laws.StructEq
namespace Go.Proofs.YtnpneippahdigaaDoor
open Go.RowKit Go.Proofs.Mem Go.Proofs.Txt

/-- what 'Get' and 'Read' hand back, in one. -/
def gotF (b : List Nat) (bv : Value) : List Value := if Wr.isFrame b then frC (b.getD 0 0 : Nat) (Wr.seqOf b : Nat) ((b.drop 9).take 32) bv else frC 0 0 zeros32 (.slice none 0 0)
def gotQ (b : List Nat) : List Value := if Wr.isAsk b then rqC (b.getD 0 0 : Nat) (Wr.i64 (Wr.askN b)) (Wr.i64 (Wr.askF b)) (b.drop 17) else rqC 0 0 0 []
theorem req_of (b : List Nat) (h : ∀ x ∈ b, x < 256) (ha : Wr.isAsk b = true) : Wr.reqBytes (b.getD 0 0 : Nat) (Wr.i64 (Wr.askN b)) (Wr.i64 (Wr.askF b)) (b.drop 17) = b := by
  have hl := ((Wr.isAsk_iff b).1 ha).1
  have h1 : Wr.askN b < 18446744073709551616 := Drw.num8_lt _ (fun x hx => h x (List.mem_of_mem_drop (List.mem_of_mem_take hx)))
  have h2 : Wr.askF b < 18446744073709551616 := Drw.num8_lt _ (fun x hx => h x (List.mem_of_mem_drop (List.mem_of_mem_take hx)))
  unfold Wr.reqBytes
  rw [Wr.u64_i64 _ h1, Wr.u64_i64 _ h2]
  unfold Wr.askN Wr.askF
  rw [Wr.be8_num8 _ (by rw [List.length_take, List.length_drop]; omega) (fun x hx => h x (List.mem_of_mem_drop (List.mem_of_mem_take hx))), Wr.be8_num8 _ (by rw [List.length_take, List.length_drop]; omega) (fun x hx => h x (List.mem_of_mem_drop (List.mem_of_mem_take hx)))]
  match b, hl with
  | x :: l, hl =>
    have hx := h x (by simp)
    have e0 : (x :: l).getD 0 0 = x := rfl
    rw [e0, Wr.u8_nat x hx]
    have e1 : (x :: l).drop 1 = l := rfl
    have e2 : (x :: l).drop 9 = l.drop 8 := rfl
    have e3 : (x :: l).drop 17 = (l.drop 8).drop 8 := by rw [List.drop_drop]; rfl
    rw [e1, e2, e3, List.take_append_drop, List.take_append_drop]
theorem req_stood : Tryd.prog.stoodInHeld 55 = false := by kernel_rfl
theorem req_guard : Tryd.prog.eqGuardType Tryd.prog.depth 55 = false := by kernel_rfl
theorem req_fields : (Tryd.prog.fieldsOf 55).toList.map (fun f => (f.name == "_", f.type, f.offset)) = [(false, 3, 0), (false, 3, 1), (false, 3, 2), (false, 9, 3)] := by kernel_rfl
theorem req_under : Tryd.prog.underlying 55 = some (.struct (Tryd.prog.fieldsOf 55)) := by
  unfold Program.fieldsOf
  rw [Tryd.underlying55]
theorem eqF_same (w : World) (k n f : Int) (text : List Nat) : ∀ (fs : List Field), fs.map (fun f => (f.name == "_", f.type, f.offset)) = [(false, 3, 0), (false, 3, 1), (false, 3, 2), (false, 9, 3)] →
    (Op.eqFields 9999 (rqC k n f text).toArray (rqC k n f text).toArray fs).run Tryd.prog w = .ok true w
  | [f0, f1, f2, f3], h => by
    simp only [List.map_cons, List.map_nil, List.cons.injEq, Prod.mk.injEq, and_true, beq_eq_false_iff_ne] at h
    obtain ⟨⟨n0, t0, o0⟩, ⟨n1, t1, o1⟩, ⟨n2, t2, o2⟩, n3, t3, o3⟩ := h
    have c1 : Tryd.prog.cellsOf 3 = 1 := by kernel_rfl
    have c2 : Tryd.prog.cellsOf 9 = 1 := by kernel_rfl
    have u1 := Tryd.underlying3
    have u2 := Tryd.underlying9
    simp only [Op.eqFields, n0, n1, n2, n3, t0, t1, t2, t3, o0, o1, o2, o3, rqC, ne_eq, not_false_eq_true, if_true, Sem.run_bind]
    go_simp
  | [], h => by simp at h
  | [_], h => by simp at h
  | [_, _], h => by simp at h
  | [_, _, _], h => by simp at h
  | _ :: _ :: _ :: _ :: _ :: _, h => by simp at h
theorem neq_req (k n f : Int) (text : List Nat) (w : World) : (binOp .neq 55 (.agg (rqC k n f text).toArray) (.agg (rqC k n f text).toArray)).run Tryd.prog w = .ok (.bool false) w := by
  rw [run_neq_struct, run_equalIn_agg w 9999 _ _ _ req_under req_stood, eqF_same w k n f text _ req_fields]
  rfl

set_option maxRecDepth 100000 in
set_option maxHeartbeats 8000000 in
theorem reads_tt (bv : Value) (b : List Nat) (xs : List Addr) (w : World) (p : Nat → Prop) (hb : ∀ x ∈ b, x < 256) (hT : TurnsAt w) (he : ErrsAt w errGs xs) (hd : xs.Nodup) (hbv : Cells w p bv (ints .u8 b)) (hF : Wr.isFrame b = true) (hA : Wr.isAsk b = true) :
    Calls Tryd.prog 10 #[bv] w fun e w' => e = .returned (.bool true) ∧ Keep (· < w.heap.size) w w' := by
  have HB := hid (hbv.lt.mono (q := fun b => b < w.heap.size) (fun _ h => h.1))
  have HT := hid hT
  have Hb := hid hb
  have HF := hid hF
  have HA := hid hA
  obtain ⟨et, ex, hev⟩ : ∃ et ex, errV xs 11 = .iface et ex := ⟨_, _, rfl⟩
  have EE := hid (show ∀ w0 : World, Keep (· < w.heap.size) w w0 → w0.cell? ⟨11, 0, none⟩ = some (.iface et ex) ∧ 11 < w0.heap.size from fun w0 k => by
    have := errs_at (he.keep k (fun _ h => h)) 10 _ rfl
    rwa [hev] at this)
  have NE := hid (show ∀ w0 : World, Keep (· < w.heap.size) w w0 → Calls Tryd.prog 19 #[.iface et ex] w0 (fun e w' => e = .returned (.int .i64 11) ∧ Keep (· < w0.heap.size) w0 w') from fun w0 k => by
    have := num_err xs 11 w0 (by decide) (he.keep k (fun _ h => h)) hd
    rw [hev] at this
    exact this)
  obtain ⟨ba, bn, bc, rfl⟩ := cells_form hbv
  have hbn : bn = b.length := by
    obtain ⟨_, _, _, e, h1, _⟩ := id hbv
    injection e with _ e2 _
    rw [e2, h1, ints_length]
  obtain ⟨t, ht⟩ : ∃ t : Int, ((b.getD 0 0 : Nat) : Int) = t := ⟨_, rfl⟩
  obtain ⟨s, hs⟩ : ∃ s : Int, ((Wr.seqOf b : Nat) : Int) = s := ⟨_, rfl⟩
  obtain ⟨tag, htag⟩ : ∃ tag, (b.drop 9).take 32 = tag := ⟨_, rfl⟩
  obtain ⟨zn, hzn⟩ : ∃ z, Wr.i64 (Wr.askN b) = z := ⟨_, rfl⟩
  obtain ⟨zf, hzf⟩ : ∃ z, Wr.i64 (Wr.askF b) = z := ⟨_, rfl⟩
  have HH := hid (And.intro ht (And.intro hs (And.intro htag (And.intro hzn (And.intro hzf hbn)))))
  clear hbv hT hb he hd hev hF hA ht hs htag hzn hzf hbn
  go_enter Tryd.func10, Tryd.ntmps10
  go_wp2_with fail
  refine (alive21_walk w HT.out).mono ?_
  rintro e w1 ⟨rfl, k1⟩
  have H1 := hid k1
  clear k1
  by_cases c1 : 20000 < bn
  · have t1 : decide ((20000 : Int) < (bn : Int)) = true := by simp; omega
    go_wp2_with fail
    go_ret
    exact ⟨rfl, H1.out⟩
  have t1 : decide ((20000 : Int) < (bn : Int)) = false := by simp; omega
  have HL := hid (show b.length ≤ 20000 by have := HH.out.2.2.2.2.2; omega)
  clear c1
  go_wp2_with fail
  clear t1
  refine (bytes_walk _ b w1 _ (by have := HL.out; omega) (HB.out.keep H1.out (fun _ h => h))).mono ?_
  rintro e w2 ⟨iv, rfl, k2, hm2⟩
  obtain ⟨ia, im, ic, rfl⟩ := cells_form hm2.cells
  have z12 := k2.size
  have H2 := hid (And.intro (H1.out.trans (k2.mono (fun b h => Nat.lt_of_lt_of_le h H1.out.size))) (And.intro hm2 H1.out.size))
  clear k2 hm2
  go_wp2_with fail
  refine (get_good _ b w2 _ Hb.out H2.out.2.1.cells HF.out).mono ?_
  rintro e w3 ⟨gv, he3, fg, k3, z3⟩
  rw [HH.out.1, HH.out.2.1, HH.out.2.2.1] at he3
  subst he3
  obtain ⟨ga, gn, gc, rfl⟩ := cells_form fg.cells
  have cg3 := fg.cells.lt.mono (q := fun b => b < w3.heap.size) (fun _ h => h.1)
  have htl : tag.length = 32 := by
    have := ((Wr.isFrame_iff b).1 HF.out).1
    rw [← HH.out.2.2.1, List.length_take, List.length_drop]; omega
  have HTL := hid htl
  clear fg z3 htl
  have hiG := frC_size HTL.out t s (.slice ga gn gc)
  have h1G := frC_one t s tag (.slice ga gn gc) rfl
  have hoG := hid (show 35 = (frC t s tag (.slice ga gn gc)).toArray.size by rw [List.size_toArray, frC_length HTL.out])
  have H3 := hid (And.intro (H2.out.1.trans (k3.mono (fun b h => Nat.lt_of_lt_of_le h H2.out.1.size))) (And.intro (H2.out.2.1.keep k3 (fun j _ h => h)) cg3))
  clear k3 cg3 z12
  go_upto_region 7 with (refine wpList_store_row rfl 49 (.tmp 4) (.tmp 26) rfl w3.heap.size (frC t s tag (.slice ga gn gc)).toArray rfl rfl 49 _ (heap_alloc_new w3 _) hiG hoG.out h1G ?_)
  refine wp_world (fun w4 => Keep (· < w3.heap.size) w3 w4 ∧ w4.heap[w3.heap.size]? = some (.cells (frC t s tag (.slice ga gn gc)).toArray 49 (0, 0)) ∧ w3.heap.size < w4.heap.size) ⟨((Keep.refl _ _).alloc _ (fun _ h => h)).setRow _ (by simp), heap_setRow (heap_alloc_new w3 _) _, by simp⟩ ?_
  rintro w4 ⟨k4, G4, z4⟩
  obtain ⟨G, hG⟩ : ∃ G, w3.heap.size = G := ⟨_, rfl⟩
  have zG : w.heap.size ≤ G := by rw [← hG]; exact H3.out.1.size
  have H4 := hid (And.intro (H3.out.1.trans (k4.mono (fun b h => Nat.lt_of_lt_of_le h H3.out.1.size))) (And.intro (H3.out.2.1.keep k4 (fun j _ h => h)) (H3.out.2.2.keep k4 (fun _ h => h))))
  rw [hG] at G4 z4 H4 ⊢
  have HG4 := hid G4
  clear k4 G4 h1G hoG hG H3
  go_wp2_with fail
  refine (rread_good _ b w4 _ Hb.out (HB.out.keep H4.out.1 (fun _ h => h)) HF.out).mono ?_
  rintro e w5 ⟨tv, rv, he5, ct5, cr5, k5⟩
  rw [HH.out.1, HH.out.2.1] at he5
  rw [HH.out.2.2.1] at ct5
  subst he5
  obtain ⟨ta, tn, tc, rfl⟩ := cells_form ct5
  obtain ⟨ra, rn, rc, rfl⟩ := cells_form cr5
  have ct5 := ct5.lt.mono (q := fun b => b < w5.heap.size) (fun _ h => h.1)
  have cr5 := cr5.lt.mono (q := fun b => b < w5.heap.size) (fun _ h => h.1)
  have hiR := rfr_size t s (.slice ta tn tc) (.slice ra rn rc)
  have h1R := rfr_one t s ta ra tn tc rn rc
  have H5 := hid (And.intro (H4.out.1.trans (k5.mono (fun b (h : b < w.heap.size) => by omega))) (And.intro (H4.out.2.1.keep k5 (fun j _ h => h)) (And.intro (H4.out.2.2.keep k5 (fun b h => Nat.lt_trans h z4)) (And.intro ct5 (And.intro cr5 ((k5.block _ z4).trans HG4.out))))))
  have z5 := Nat.lt_of_lt_of_le z4 k5.size
  clear k5 ct5 cr5 z4 H4 HG4
  go_upto_region 8 with (refine wpList_store_row rfl 83 (.tmp 6) (.tmp 31) rfl w5.heap.size (rfC t s (.slice ta tn tc) (.slice ra rn rc)).toArray rfl rfl 83 _ (heap_alloc_new w5 _) hiR rfl h1R ?_)
  refine wp_world (fun w6 => Keep (· < w5.heap.size) w5 w6 ∧ w6.heap[w5.heap.size]? = some (.cells (rfC t s (.slice ta tn tc) (.slice ra rn rc)).toArray 83 (0, 0)) ∧ w5.heap.size < w6.heap.size) ⟨((Keep.refl _ _).alloc _ (fun _ h => h)).setRow _ (by simp), heap_setRow (heap_alloc_new w5 _) _, by simp⟩ ?_
  rintro w6 ⟨k6, R6, z6⟩
  obtain ⟨R, hR⟩ : ∃ R, w5.heap.size = R := ⟨_, rfl⟩
  have H6 := hid (And.intro (H5.out.1.trans (k6.mono (fun b (h : b < w.heap.size) => by omega))) (And.intro (H5.out.2.1.keep k6 (fun j _ h => h)) (And.intro (H5.out.2.2.1.keep k6 (fun b h => Nat.lt_trans h z5)) (And.intro (H5.out.2.2.2.1.keep k6 (fun _ h => h)) (And.intro (H5.out.2.2.2.2.1.keep k6 (fun _ h => h)) (And.intro ((k6.block _ z5).trans H5.out.2.2.2.2.2) R6))))))
  rw [hR] at z6 z5 H6 ⊢
  clear k6 R6 H5 h1R hR
  go_wp2_with fail
  refine (greq_walk _ b w6 et ex _ Hb.out (by have := HL.out; omega) H6.out.2.1.cells (EE.out w6 H6.out.1).1 (EE.out w6 H6.out.1).2).mono ?_
  rintro e w7 ⟨k7, ⟨ho, he7⟩ | ⟨ho, he7⟩⟩
  rotate_left 1
  · rw [HA.out] at ho
    cases ho
  rw [HH.out.1, HH.out.2.2.2.1, HH.out.2.2.2.2.1] at he7
  subst he7
  have hiQ := rq_size t zn zf (b.drop 17)
  have h1Q := rq_one t zn zf (b.drop 17)
  have H7 := hid (And.intro (H6.out.1.trans (k7.mono (fun b (h : b < w.heap.size) => by omega))) (And.intro (H6.out.2.1.keep k7 (fun j _ h => h)) (And.intro (H6.out.2.2.1.keep k7 (fun b (h : b < G) => by omega)) (And.intro (H6.out.2.2.2.1.keep k7 (fun b (h : b < R) => by omega)) (And.intro (H6.out.2.2.2.2.1.keep k7 (fun b (h : b < R) => by omega)) (And.intro ((k7.block _ (by omega)).trans H6.out.2.2.2.2.2.1) ((k7.block _ z6).trans H6.out.2.2.2.2.2.2)))))))
  have z7 := Nat.lt_of_lt_of_le z6 k7.size
  clear k7 ho H6 z6
  go_upto_region 9 with (refine wpList_store_row rfl 55 (.tmp 8) (.tmp 36) rfl w7.heap.size (rqC t zn zf (b.drop 17)).toArray rfl rfl 55 _ (heap_alloc_new w7 _) hiQ rfl h1Q ?_)
  refine wp_world (fun w8 => Keep (· < w7.heap.size) w7 w8 ∧ w8.heap[w7.heap.size]? = some (.cells (rqC t zn zf (b.drop 17)).toArray 55 (0, 0)) ∧ w7.heap.size < w8.heap.size) ⟨((Keep.refl _ _).alloc _ (fun _ h => h)).setRow _ (by simp), heap_setRow (heap_alloc_new w7 _) _, by simp⟩ ?_
  rintro w8 ⟨k8, Q8, z8⟩
  obtain ⟨Q, hQ⟩ : ∃ Q, w7.heap.size = Q := ⟨_, rfl⟩
  have H8 := hid (And.intro (H7.out.1.trans (k8.mono (fun b (h : b < w.heap.size) => by omega))) (And.intro (H7.out.2.1.keep k8 (fun j _ h => h)) (And.intro (H7.out.2.2.1.keep k8 (fun b (h : b < G) => by omega)) (And.intro (H7.out.2.2.2.1.keep k8 (fun b (h : b < R) => by omega)) (And.intro (H7.out.2.2.2.2.1.keep k8 (fun b (h : b < R) => by omega)) (And.intro ((k8.block _ (by omega)).trans H7.out.2.2.2.2.2.1) (And.intro ((k8.block _ z7).trans H7.out.2.2.2.2.2.2) Q8)))))))
  rw [hQ] at z8 z7 H8 ⊢
  clear k8 Q8 H7 hQ
  go_wp2_with fail
  refine (asked_walk _ b w8 _ Hb.out (HB.out.keep H8.out.1 (fun _ h => h))).mono ?_
  rintro e w9 ⟨k9, ⟨ho, he9⟩ | ⟨ho, he9⟩⟩
  rotate_left 1
  · rw [HA.out] at ho
    cases ho
  rw [HH.out.1, HH.out.2.2.2.1, HH.out.2.2.2.2.1] at he9
  subst he9
  have H9 := hid (And.intro (H8.out.1.trans (k9.mono (fun b (h : b < w.heap.size) => by omega))) (And.intro (H8.out.2.1.keep k9 (fun j _ h => h)) (And.intro (H8.out.2.2.1.keep k9 (fun b (h : b < G) => by omega)) (And.intro (H8.out.2.2.2.1.keep k9 (fun b (h : b < R) => by omega)) (And.intro (H8.out.2.2.2.2.1.keep k9 (fun b (h : b < R) => by omega)) (And.intro ((k9.block _ (by omega)).trans H8.out.2.2.2.2.2.1) (And.intro ((k9.block _ (by omega)).trans H8.out.2.2.2.2.2.2.1) ((k9.block _ z8).trans H8.out.2.2.2.2.2.2.2))))))))
  have z9 := Nat.lt_of_lt_of_le z8 k9.size
  clear k9 ho H8 z8
  go_upto_region 10 with (refine wpList_store_row rfl 55 (.tmp 10) (.tmp 41) rfl w9.heap.size (rqC t zn zf (b.drop 17)).toArray rfl rfl 55 _ (heap_alloc_new w9 _) hiQ rfl h1Q ?_)
  refine wp_world (fun w10 => Keep (· < w9.heap.size) w9 w10 ∧ w10.heap[w9.heap.size]? = some (.cells (rqC t zn zf (b.drop 17)).toArray 55 (0, 0)) ∧ w9.heap.size < w10.heap.size) ⟨((Keep.refl _ _).alloc _ (fun _ h => h)).setRow _ (by simp), heap_setRow (heap_alloc_new w9 _) _, by simp⟩ ?_
  rintro w10 ⟨k10, S10, z10⟩
  obtain ⟨S, hS⟩ : ∃ S, w9.heap.size = S := ⟨_, rfl⟩
  have H10 := hid (And.intro (H9.out.1.trans (k10.mono (fun b (h : b < w.heap.size) => by omega))) (And.intro (H9.out.2.1.keep k10 (fun j _ h => h)) (And.intro (H9.out.2.2.1.keep k10 (fun b (h : b < G) => by omega)) (And.intro (H9.out.2.2.2.1.keep k10 (fun b (h : b < R) => by omega)) (And.intro (H9.out.2.2.2.2.1.keep k10 (fun b (h : b < R) => by omega)) (And.intro ((k10.block _ (by omega)).trans H9.out.2.2.2.2.2.1) (And.intro ((k10.block _ (by omega)).trans H9.out.2.2.2.2.2.2.1) (And.intro ((k10.block _ z9).trans H9.out.2.2.2.2.2.2.2) S10))))))))
  rw [hS] at z10 z9 H10 ⊢
  clear k10 S10 H9 hS
  have hne := fun w0 => neq_req t zn zf (b.drop 17) w0
  have ld := req_guard
  go_wp2_with (first | refine wpList_load_row_if (by rfl) 55 (.tmp 8) rfl Q rfl 55 _ (0, 0) _ H10.out.2.2.2.2.2.2.2.1 Tryd.underlying55 rfl hiQ ?_ | refine wpList_load_row_if (by rfl) 55 (.tmp 10) rfl S rfl 55 _ (0, 0) _ H10.out.2.2.2.2.2.2.2.2 Tryd.underlying55 rfl hiQ ?_ | refine wpList_load_row_if (by rfl) 49 (.tmp 4) rfl G rfl 49 _ (0, 0) _ H10.out.2.2.2.2.2.1 Tryd.underlying49 rfl hiG ?_ | refine wpList_load_row_if (by rfl) 83 (.tmp 6) rfl R rfl 83 _ (0, 0) _ H10.out.2.2.2.2.2.2.1 Tryd.underlying83 rfl hiR ?_)
  clear hne ld
  refine (same21_walk t s tag (b.drop 41) _ _ _ w10 _ _ _ HTL.out (.inl H10.out.2.2.2.1) H10.out.2.2.1 H10.out.2.2.2.2.1).mono ?_
  rintro e w11 ⟨rfl, k11⟩
  have H11 := hid (And.intro (H10.out.1.trans (k11.mono (fun b (h : b < w.heap.size) => by omega))) (And.intro (H10.out.2.1.keep k11 (fun j _ h => h)) (And.intro (H10.out.2.2.1.keep k11 (fun b (h : b < G) => by omega)) (And.intro ((k11.block _ (by omega)).trans H10.out.2.2.2.2.2.1) ((k11.block _ (by omega)).trans H10.out.2.2.2.2.2.2.2.1)))))
  have z11 := Nat.lt_of_lt_of_le z10 k11.size
  clear k11 H10 z10
  go_wp2_with fail
  refine (kept_walk _ _ _ b w11 _ (by have := HL.out; omega) H11.out.2.1 (HB.out.keep H11.out.1 (fun _ h => h))).mono ?_
  rintro e w12 ⟨rfl, k12⟩
  have H12 := hid (And.intro (H11.out.1.trans (k12.mono (fun _ _ => trivial))) (And.intro (H11.out.2.2.1.keep k12 (fun _ _ => trivial)) (And.intro ((k12.block _ trivial).trans H11.out.2.2.2.1) ((k12.block _ trivial).trans H11.out.2.2.2.2))))
  have z12 := Nat.lt_of_lt_of_le z11 k12.size
  clear k12 H11 z11
  go_wp2_with (refine wpList_load_row rfl 49 (.tmp 4) rfl G rfl 49 _ (0, 0) _ H12.out.2.2.1 Tryd.underlying49 rfl hiG ?_)
  have hfo : Wr.form t s (b.drop 41).length = true := by
    have h1 := (Wr.isFrame_iff b).1 HF.out
    have h2 : b.getD 0 0 < 256 := by rw [List.getD_eq_getElem?_getD, List.getElem?_eq_getElem (by omega)]; exact Hb.out _ (List.getElem_mem _)
    rw [Wr.form_iff, ← HH.out.1, ← HH.out.2.1, List.length_drop]
    omega
  have hby : Wr.bytes t s tag (b.drop 41) = b := by
    rw [← HH.out.1, ← HH.out.2.1, ← HH.out.2.2.1]
    exact Wr.bytes_of b Hb.out ((Wr.isFrame_iff b).1 HF.out).1
  refine (wput_good t s tag _ (b.drop 41) w12 _ HTL.out hfo H12.out.2.1).mono ?_
  rintro e wp ⟨pv, rfl, fp, kp, zp⟩
  rw [hby] at fp
  obtain ⟨pa, pn, pc, rfl⟩ := cells_form fp.cells
  have kwp := H12.out.1.trans (kp.mono (fun b (h : b < w.heap.size) => by omega))
  have cv1 := conv_bytes21 wp fp.cells
  have cv2 := conv_bytes21 wp (HB.out.keep kwp (fun _ h => h))
  have eB : ((bstr b).toList == (bstr b).toList) = true := by simp
  have H13 := hid (And.intro kwp (And.intro trivial (And.intro trivial ((kp.block _ (by omega)).trans H12.out.2.2.2))))
  have z13 := Nat.lt_of_lt_of_le z12 zp
  clear kp kwp fp zp hfo hby H12 z12
  go_wp2_with (refine wpList_load_row rfl 55 (.tmp 8) rfl Q rfl 55 _ (0, 0) _ H13.out.2.2.2 Tryd.underlying55 rfl hiQ ?_)
  refine (preq_walk t zn zf (b.drop 17) wp et ex (fun x hx => Hb.out x (List.mem_of_mem_drop hx)) (by rw [List.length_drop]; have := HL.out; omega) (EE.out _ H13.out.1).1 (EE.out _ H13.out.1).2).mono ?_
  have hok : Wr.reqOk t (b.drop 17) = true := by
    have := HA.out
    unfold Wr.isAsk at this
    rw [Bool.and_eq_true, HH.out.1] at this
    exact this.2
  have hrq : Wr.reqBytes t zn zf (b.drop 17) = b := by
    rw [← HH.out.1, ← HH.out.2.2.2.1, ← HH.out.2.2.2.2.1]
    exact req_of b Hb.out HA.out
  rintro e wq ⟨kq, ⟨_, qv, rfl, cq⟩ | ⟨ho, _⟩⟩
  rotate_left 1
  · rw [hok] at ho
    cases ho
  rw [hrq] at cq
  obtain ⟨qa, qn, qc, rfl⟩ := cells_form cq
  have kwq := H13.out.1.trans (kq.mono (fun b (h : b < w.heap.size) => by omega))
  have cw1 := conv_bytes21 wq cq
  have cw2 := conv_bytes21 wq (HB.out.keep kwq (fun _ h => h))
  have eB2 : ((bstr b).toList == (bstr b).toList) = true := by simp
  have HZ := hid kwq
  clear kq kwq cq hok hrq
  go_wp2_with fail
  go_ret
  exact ⟨rfl, HZ.out⟩

set_option maxRecDepth 100000 in
set_option maxHeartbeats 8000000 in
theorem reads_tf (bv : Value) (b : List Nat) (xs : List Addr) (w : World) (p : Nat → Prop) (hb : ∀ x ∈ b, x < 256) (hT : TurnsAt w) (he : ErrsAt w errGs xs) (hd : xs.Nodup) (hbv : Cells w p bv (ints .u8 b)) (hF : Wr.isFrame b = true) (hA : Wr.isAsk b = false) :
    Calls Tryd.prog 10 #[bv] w fun e w' => e = .returned (.bool true) ∧ Keep (· < w.heap.size) w w' := by
  have HB := hid (hbv.lt.mono (q := fun b => b < w.heap.size) (fun _ h => h.1))
  have HT := hid hT
  have Hb := hid hb
  have HF := hid hF
  have HA := hid hA
  obtain ⟨et, ex, hev⟩ : ∃ et ex, errV xs 11 = .iface et ex := ⟨_, _, rfl⟩
  have EE := hid (show ∀ w0 : World, Keep (· < w.heap.size) w w0 → w0.cell? ⟨11, 0, none⟩ = some (.iface et ex) ∧ 11 < w0.heap.size from fun w0 k => by
    have := errs_at (he.keep k (fun _ h => h)) 10 _ rfl
    rwa [hev] at this)
  have NE := hid (show ∀ w0 : World, Keep (· < w.heap.size) w w0 → Calls Tryd.prog 19 #[.iface et ex] w0 (fun e w' => e = .returned (.int .i64 11) ∧ Keep (· < w0.heap.size) w0 w') from fun w0 k => by
    have := num_err xs 11 w0 (by decide) (he.keep k (fun _ h => h)) hd
    rw [hev] at this
    exact this)
  obtain ⟨ba, bn, bc, rfl⟩ := cells_form hbv
  have hbn : bn = b.length := by
    obtain ⟨_, _, _, e, h1, _⟩ := id hbv
    injection e with _ e2 _
    rw [e2, h1, ints_length]
  obtain ⟨t, ht⟩ : ∃ t : Int, ((b.getD 0 0 : Nat) : Int) = t := ⟨_, rfl⟩
  obtain ⟨s, hs⟩ : ∃ s : Int, ((Wr.seqOf b : Nat) : Int) = s := ⟨_, rfl⟩
  obtain ⟨tag, htag⟩ : ∃ tag, (b.drop 9).take 32 = tag := ⟨_, rfl⟩
  obtain ⟨zn, hzn⟩ : ∃ z, Wr.i64 (Wr.askN b) = z := ⟨_, rfl⟩
  obtain ⟨zf, hzf⟩ : ∃ z, Wr.i64 (Wr.askF b) = z := ⟨_, rfl⟩
  have HH := hid (And.intro ht (And.intro hs (And.intro htag (And.intro hzn (And.intro hzf hbn)))))
  clear hbv hT hb he hd hev hF hA ht hs htag hzn hzf hbn
  go_enter Tryd.func10, Tryd.ntmps10
  go_wp2_with fail
  refine (alive21_walk w HT.out).mono ?_
  rintro e w1 ⟨rfl, k1⟩
  have H1 := hid k1
  clear k1
  by_cases c1 : 20000 < bn
  · have t1 : decide ((20000 : Int) < (bn : Int)) = true := by simp; omega
    go_wp2_with fail
    go_ret
    exact ⟨rfl, H1.out⟩
  have t1 : decide ((20000 : Int) < (bn : Int)) = false := by simp; omega
  have HL := hid (show b.length ≤ 20000 by have := HH.out.2.2.2.2.2; omega)
  clear c1
  go_wp2_with fail
  clear t1
  refine (bytes_walk _ b w1 _ (by have := HL.out; omega) (HB.out.keep H1.out (fun _ h => h))).mono ?_
  rintro e w2 ⟨iv, rfl, k2, hm2⟩
  obtain ⟨ia, im, ic, rfl⟩ := cells_form hm2.cells
  have z12 := k2.size
  have H2 := hid (And.intro (H1.out.trans (k2.mono (fun b h => Nat.lt_of_lt_of_le h H1.out.size))) (And.intro hm2 H1.out.size))
  clear k2 hm2
  go_wp2_with fail
  refine (get_good _ b w2 _ Hb.out H2.out.2.1.cells HF.out).mono ?_
  rintro e w3 ⟨gv, he3, fg, k3, z3⟩
  rw [HH.out.1, HH.out.2.1, HH.out.2.2.1] at he3
  subst he3
  obtain ⟨ga, gn, gc, rfl⟩ := cells_form fg.cells
  have cg3 := fg.cells.lt.mono (q := fun b => b < w3.heap.size) (fun _ h => h.1)
  have htl : tag.length = 32 := by
    have := ((Wr.isFrame_iff b).1 HF.out).1
    rw [← HH.out.2.2.1, List.length_take, List.length_drop]; omega
  have HTL := hid htl
  clear fg z3 htl
  have hiG := frC_size HTL.out t s (.slice ga gn gc)
  have h1G := frC_one t s tag (.slice ga gn gc) rfl
  have hoG := hid (show 35 = (frC t s tag (.slice ga gn gc)).toArray.size by rw [List.size_toArray, frC_length HTL.out])
  have H3 := hid (And.intro (H2.out.1.trans (k3.mono (fun b h => Nat.lt_of_lt_of_le h H2.out.1.size))) (And.intro (H2.out.2.1.keep k3 (fun j _ h => h)) cg3))
  clear k3 cg3 z12
  go_upto_region 7 with (refine wpList_store_row rfl 49 (.tmp 4) (.tmp 26) rfl w3.heap.size (frC t s tag (.slice ga gn gc)).toArray rfl rfl 49 _ (heap_alloc_new w3 _) hiG hoG.out h1G ?_)
  refine wp_world (fun w4 => Keep (· < w3.heap.size) w3 w4 ∧ w4.heap[w3.heap.size]? = some (.cells (frC t s tag (.slice ga gn gc)).toArray 49 (0, 0)) ∧ w3.heap.size < w4.heap.size) ⟨((Keep.refl _ _).alloc _ (fun _ h => h)).setRow _ (by simp), heap_setRow (heap_alloc_new w3 _) _, by simp⟩ ?_
  rintro w4 ⟨k4, G4, z4⟩
  obtain ⟨G, hG⟩ : ∃ G, w3.heap.size = G := ⟨_, rfl⟩
  have zG : w.heap.size ≤ G := by rw [← hG]; exact H3.out.1.size
  have H4 := hid (And.intro (H3.out.1.trans (k4.mono (fun b h => Nat.lt_of_lt_of_le h H3.out.1.size))) (And.intro (H3.out.2.1.keep k4 (fun j _ h => h)) (H3.out.2.2.keep k4 (fun _ h => h))))
  rw [hG] at G4 z4 H4 ⊢
  have HG4 := hid G4
  clear k4 G4 h1G hoG hG H3
  go_wp2_with fail
  refine (rread_good _ b w4 _ Hb.out (HB.out.keep H4.out.1 (fun _ h => h)) HF.out).mono ?_
  rintro e w5 ⟨tv, rv, he5, ct5, cr5, k5⟩
  rw [HH.out.1, HH.out.2.1] at he5
  rw [HH.out.2.2.1] at ct5
  subst he5
  obtain ⟨ta, tn, tc, rfl⟩ := cells_form ct5
  obtain ⟨ra, rn, rc, rfl⟩ := cells_form cr5
  have ct5 := ct5.lt.mono (q := fun b => b < w5.heap.size) (fun _ h => h.1)
  have cr5 := cr5.lt.mono (q := fun b => b < w5.heap.size) (fun _ h => h.1)
  have hiR := rfr_size t s (.slice ta tn tc) (.slice ra rn rc)
  have h1R := rfr_one t s ta ra tn tc rn rc
  have H5 := hid (And.intro (H4.out.1.trans (k5.mono (fun b (h : b < w.heap.size) => by omega))) (And.intro (H4.out.2.1.keep k5 (fun j _ h => h)) (And.intro (H4.out.2.2.keep k5 (fun b h => Nat.lt_trans h z4)) (And.intro ct5 (And.intro cr5 ((k5.block _ z4).trans HG4.out))))))
  have z5 := Nat.lt_of_lt_of_le z4 k5.size
  clear k5 ct5 cr5 z4 H4 HG4
  go_upto_region 8 with (refine wpList_store_row rfl 83 (.tmp 6) (.tmp 31) rfl w5.heap.size (rfC t s (.slice ta tn tc) (.slice ra rn rc)).toArray rfl rfl 83 _ (heap_alloc_new w5 _) hiR rfl h1R ?_)
  refine wp_world (fun w6 => Keep (· < w5.heap.size) w5 w6 ∧ w6.heap[w5.heap.size]? = some (.cells (rfC t s (.slice ta tn tc) (.slice ra rn rc)).toArray 83 (0, 0)) ∧ w5.heap.size < w6.heap.size) ⟨((Keep.refl _ _).alloc _ (fun _ h => h)).setRow _ (by simp), heap_setRow (heap_alloc_new w5 _) _, by simp⟩ ?_
  rintro w6 ⟨k6, R6, z6⟩
  obtain ⟨R, hR⟩ : ∃ R, w5.heap.size = R := ⟨_, rfl⟩
  have H6 := hid (And.intro (H5.out.1.trans (k6.mono (fun b (h : b < w.heap.size) => by omega))) (And.intro (H5.out.2.1.keep k6 (fun j _ h => h)) (And.intro (H5.out.2.2.1.keep k6 (fun b h => Nat.lt_trans h z5)) (And.intro (H5.out.2.2.2.1.keep k6 (fun _ h => h)) (And.intro (H5.out.2.2.2.2.1.keep k6 (fun _ h => h)) (And.intro ((k6.block _ z5).trans H5.out.2.2.2.2.2) R6))))))
  rw [hR] at z6 z5 H6 ⊢
  clear k6 R6 H5 h1R hR
  go_wp2_with fail
  refine (greq_walk _ b w6 et ex _ Hb.out (by have := HL.out; omega) H6.out.2.1.cells (EE.out w6 H6.out.1).1 (EE.out w6 H6.out.1).2).mono ?_
  rintro e w7 ⟨k7, ⟨ho, he7⟩ | ⟨ho, he7⟩⟩
  rotate_left 0
  · rw [HA.out] at ho
    cases ho
  subst he7
  have hiQ := rq_size 0 0 0 []
  have h1Q := rq_one 0 0 0 []
  have H7 := hid (And.intro (H6.out.1.trans (k7.mono (fun b (h : b < w.heap.size) => by omega))) (And.intro (H6.out.2.1.keep k7 (fun j _ h => h)) (And.intro (H6.out.2.2.1.keep k7 (fun b (h : b < G) => by omega)) (And.intro (H6.out.2.2.2.1.keep k7 (fun b (h : b < R) => by omega)) (And.intro (H6.out.2.2.2.2.1.keep k7 (fun b (h : b < R) => by omega)) (And.intro ((k7.block _ (by omega)).trans H6.out.2.2.2.2.2.1) ((k7.block _ z6).trans H6.out.2.2.2.2.2.2)))))))
  have z7 := Nat.lt_of_lt_of_le z6 k7.size
  clear k7 ho H6 z6
  go_upto_region 9 with (refine wpList_store_row rfl 55 (.tmp 8) (.tmp 36) rfl w7.heap.size (rqC 0 0 0 []).toArray rfl rfl 55 _ (heap_alloc_new w7 _) hiQ rfl h1Q ?_)
  refine wp_world (fun w8 => Keep (· < w7.heap.size) w7 w8 ∧ w8.heap[w7.heap.size]? = some (.cells (rqC 0 0 0 []).toArray 55 (0, 0)) ∧ w7.heap.size < w8.heap.size) ⟨((Keep.refl _ _).alloc _ (fun _ h => h)).setRow _ (by simp), heap_setRow (heap_alloc_new w7 _) _, by simp⟩ ?_
  rintro w8 ⟨k8, Q8, z8⟩
  obtain ⟨Q, hQ⟩ : ∃ Q, w7.heap.size = Q := ⟨_, rfl⟩
  have H8 := hid (And.intro (H7.out.1.trans (k8.mono (fun b (h : b < w.heap.size) => by omega))) (And.intro (H7.out.2.1.keep k8 (fun j _ h => h)) (And.intro (H7.out.2.2.1.keep k8 (fun b (h : b < G) => by omega)) (And.intro (H7.out.2.2.2.1.keep k8 (fun b (h : b < R) => by omega)) (And.intro (H7.out.2.2.2.2.1.keep k8 (fun b (h : b < R) => by omega)) (And.intro ((k8.block _ (by omega)).trans H7.out.2.2.2.2.2.1) (And.intro ((k8.block _ z7).trans H7.out.2.2.2.2.2.2) Q8)))))))
  rw [hQ] at z8 z7 H8 ⊢
  clear k8 Q8 H7 hQ
  go_wp2_with fail
  refine (asked_walk _ b w8 _ Hb.out (HB.out.keep H8.out.1 (fun _ h => h))).mono ?_
  rintro e w9 ⟨k9, ⟨ho, he9⟩ | ⟨ho, he9⟩⟩
  rotate_left 0
  · rw [HA.out] at ho
    cases ho
  subst he9
  have H9 := hid (And.intro (H8.out.1.trans (k9.mono (fun b (h : b < w.heap.size) => by omega))) (And.intro (H8.out.2.1.keep k9 (fun j _ h => h)) (And.intro (H8.out.2.2.1.keep k9 (fun b (h : b < G) => by omega)) (And.intro (H8.out.2.2.2.1.keep k9 (fun b (h : b < R) => by omega)) (And.intro (H8.out.2.2.2.2.1.keep k9 (fun b (h : b < R) => by omega)) (And.intro ((k9.block _ (by omega)).trans H8.out.2.2.2.2.2.1) (And.intro ((k9.block _ (by omega)).trans H8.out.2.2.2.2.2.2.1) ((k9.block _ z8).trans H8.out.2.2.2.2.2.2.2))))))))
  have z9 := Nat.lt_of_lt_of_le z8 k9.size
  clear k9 ho H8 z8
  go_upto_region 10 with (refine wpList_store_row rfl 55 (.tmp 10) (.tmp 41) rfl w9.heap.size (rqC 0 0 0 []).toArray rfl rfl 55 _ (heap_alloc_new w9 _) hiQ rfl h1Q ?_)
  refine wp_world (fun w10 => Keep (· < w9.heap.size) w9 w10 ∧ w10.heap[w9.heap.size]? = some (.cells (rqC 0 0 0 []).toArray 55 (0, 0)) ∧ w9.heap.size < w10.heap.size) ⟨((Keep.refl _ _).alloc _ (fun _ h => h)).setRow _ (by simp), heap_setRow (heap_alloc_new w9 _) _, by simp⟩ ?_
  rintro w10 ⟨k10, S10, z10⟩
  obtain ⟨S, hS⟩ : ∃ S, w9.heap.size = S := ⟨_, rfl⟩
  have H10 := hid (And.intro (H9.out.1.trans (k10.mono (fun b (h : b < w.heap.size) => by omega))) (And.intro (H9.out.2.1.keep k10 (fun j _ h => h)) (And.intro (H9.out.2.2.1.keep k10 (fun b (h : b < G) => by omega)) (And.intro (H9.out.2.2.2.1.keep k10 (fun b (h : b < R) => by omega)) (And.intro (H9.out.2.2.2.2.1.keep k10 (fun b (h : b < R) => by omega)) (And.intro ((k10.block _ (by omega)).trans H9.out.2.2.2.2.2.1) (And.intro ((k10.block _ (by omega)).trans H9.out.2.2.2.2.2.2.1) (And.intro ((k10.block _ z9).trans H9.out.2.2.2.2.2.2.2) S10))))))))
  rw [hS] at z10 z9 H10 ⊢
  clear k10 S10 H9 hS
  have hne := fun w0 => neq_req 0 0 0 [] w0
  have ld := req_guard
  go_wp2_with (first | refine wpList_load_row_if (by rfl) 55 (.tmp 8) rfl Q rfl 55 _ (0, 0) _ H10.out.2.2.2.2.2.2.2.1 Tryd.underlying55 rfl hiQ ?_ | refine wpList_load_row_if (by rfl) 55 (.tmp 10) rfl S rfl 55 _ (0, 0) _ H10.out.2.2.2.2.2.2.2.2 Tryd.underlying55 rfl hiQ ?_ | refine wpList_load_row_if (by rfl) 49 (.tmp 4) rfl G rfl 49 _ (0, 0) _ H10.out.2.2.2.2.2.1 Tryd.underlying49 rfl hiG ?_ | refine wpList_load_row_if (by rfl) 83 (.tmp 6) rfl R rfl 83 _ (0, 0) _ H10.out.2.2.2.2.2.2.1 Tryd.underlying83 rfl hiR ?_)
  clear hne ld
  refine (same21_walk t s tag (b.drop 41) _ _ _ w10 _ _ _ HTL.out (.inl H10.out.2.2.2.1) H10.out.2.2.1 H10.out.2.2.2.2.1).mono ?_
  rintro e w11 ⟨rfl, k11⟩
  have H11 := hid (And.intro (H10.out.1.trans (k11.mono (fun b (h : b < w.heap.size) => by omega))) (And.intro (H10.out.2.1.keep k11 (fun j _ h => h)) (And.intro (H10.out.2.2.1.keep k11 (fun b (h : b < G) => by omega)) (And.intro ((k11.block _ (by omega)).trans H10.out.2.2.2.2.2.1) ((k11.block _ (by omega)).trans H10.out.2.2.2.2.2.2.2.1)))))
  have z11 := Nat.lt_of_lt_of_le z10 k11.size
  clear k11 H10 z10
  go_wp2_with fail
  refine (kept_walk _ _ _ b w11 _ (by have := HL.out; omega) H11.out.2.1 (HB.out.keep H11.out.1 (fun _ h => h))).mono ?_
  rintro e w12 ⟨rfl, k12⟩
  have H12 := hid (And.intro (H11.out.1.trans (k12.mono (fun _ _ => trivial))) (And.intro (H11.out.2.2.1.keep k12 (fun _ _ => trivial)) (And.intro ((k12.block _ trivial).trans H11.out.2.2.2.1) ((k12.block _ trivial).trans H11.out.2.2.2.2))))
  have z12 := Nat.lt_of_lt_of_le z11 k12.size
  clear k12 H11 z11
  go_wp2_with fail
  refine (NE.out w12 H12.out.1).mono ?_
  rintro e w13 ⟨rfl, kn⟩
  have H13 := hid (And.intro (H12.out.1.trans (kn.mono (fun b (h : b < w.heap.size) => by omega))) (And.intro (H12.out.2.1.keep kn (fun b (h : b < G) => by omega)) (And.intro ((kn.block _ (by omega)).trans H12.out.2.2.1) ((kn.block _ (by omega)).trans H12.out.2.2.2))))
  have z13 := Nat.lt_of_lt_of_le z12 kn.size
  clear kn H12 z12
  go_wp2_with (refine wpList_load_row rfl 49 (.tmp 4) rfl G rfl 49 _ (0, 0) _ H13.out.2.2.1 Tryd.underlying49 rfl hiG ?_)
  have hfo : Wr.form t s (b.drop 41).length = true := by
    have h1 := (Wr.isFrame_iff b).1 HF.out
    have h2 : b.getD 0 0 < 256 := by rw [List.getD_eq_getElem?_getD, List.getElem?_eq_getElem (by omega)]; exact Hb.out _ (List.getElem_mem _)
    rw [Wr.form_iff, ← HH.out.1, ← HH.out.2.1, List.length_drop]
    omega
  have hby : Wr.bytes t s tag (b.drop 41) = b := by
    rw [← HH.out.1, ← HH.out.2.1, ← HH.out.2.2.1]
    exact Wr.bytes_of b Hb.out ((Wr.isFrame_iff b).1 HF.out).1
  refine (wput_good t s tag _ (b.drop 41) w13 _ HTL.out hfo H13.out.2.1).mono ?_
  rintro e wp ⟨pv, rfl, fp, kp, zp⟩
  rw [hby] at fp
  obtain ⟨pa, pn, pc, rfl⟩ := cells_form fp.cells
  have kwp := H13.out.1.trans (kp.mono (fun b (h : b < w.heap.size) => by omega))
  have cv1 := conv_bytes21 wp fp.cells
  have cv2 := conv_bytes21 wp (HB.out.keep kwp (fun _ h => h))
  have eB : ((bstr b).toList == (bstr b).toList) = true := by simp
  have H14 := hid (And.intro kwp (And.intro trivial (And.intro trivial ((kp.block _ (by omega)).trans H13.out.2.2.2))))
  have z14 := Nat.lt_of_lt_of_le z13 zp
  clear kp kwp fp zp hfo hby H13 z13
  go_wp2_with fail
  go_ret
  exact ⟨rfl, H14.out.1⟩

set_option maxRecDepth 100000 in
set_option maxHeartbeats 8000000 in
theorem reads_ft (bv : Value) (b : List Nat) (xs : List Addr) (w : World) (p : Nat → Prop) (hb : ∀ x ∈ b, x < 256) (hT : TurnsAt w) (he : ErrsAt w errGs xs) (hd : xs.Nodup) (hbv : Cells w p bv (ints .u8 b)) (hF : Wr.isFrame b = false) (hA : Wr.isAsk b = true) :
    Calls Tryd.prog 10 #[bv] w fun e w' => e = .returned (.bool true) ∧ Keep (· < w.heap.size) w w' := by
  have HB := hid (hbv.lt.mono (q := fun b => b < w.heap.size) (fun _ h => h.1))
  have HT := hid hT
  have Hb := hid hb
  have HF := hid hF
  have HA := hid hA
  obtain ⟨et, ex, hev⟩ : ∃ et ex, errV xs 11 = .iface et ex := ⟨_, _, rfl⟩
  have EE := hid (show ∀ w0 : World, Keep (· < w.heap.size) w w0 → w0.cell? ⟨11, 0, none⟩ = some (.iface et ex) ∧ 11 < w0.heap.size from fun w0 k => by
    have := errs_at (he.keep k (fun _ h => h)) 10 _ rfl
    rwa [hev] at this)
  have NE := hid (show ∀ w0 : World, Keep (· < w.heap.size) w w0 → Calls Tryd.prog 19 #[.iface et ex] w0 (fun e w' => e = .returned (.int .i64 11) ∧ Keep (· < w0.heap.size) w0 w') from fun w0 k => by
    have := num_err xs 11 w0 (by decide) (he.keep k (fun _ h => h)) hd
    rw [hev] at this
    exact this)
  obtain ⟨ba, bn, bc, rfl⟩ := cells_form hbv
  have hbn : bn = b.length := by
    obtain ⟨_, _, _, e, h1, _⟩ := id hbv
    injection e with _ e2 _
    rw [e2, h1, ints_length]
  obtain ⟨t, ht⟩ : ∃ t : Int, ((b.getD 0 0 : Nat) : Int) = t := ⟨_, rfl⟩
  obtain ⟨s, hs⟩ : ∃ s : Int, ((Wr.seqOf b : Nat) : Int) = s := ⟨_, rfl⟩
  obtain ⟨tag, htag⟩ : ∃ tag, (b.drop 9).take 32 = tag := ⟨_, rfl⟩
  obtain ⟨zn, hzn⟩ : ∃ z, Wr.i64 (Wr.askN b) = z := ⟨_, rfl⟩
  obtain ⟨zf, hzf⟩ : ∃ z, Wr.i64 (Wr.askF b) = z := ⟨_, rfl⟩
  have HH := hid (And.intro ht (And.intro hs (And.intro htag (And.intro hzn (And.intro hzf hbn)))))
  clear hbv hT hb he hd hev hF hA ht hs htag hzn hzf hbn
  go_enter Tryd.func10, Tryd.ntmps10
  go_wp2_with fail
  refine (alive21_walk w HT.out).mono ?_
  rintro e w1 ⟨rfl, k1⟩
  have H1 := hid k1
  clear k1
  by_cases c1 : 20000 < bn
  · have t1 : decide ((20000 : Int) < (bn : Int)) = true := by simp; omega
    go_wp2_with fail
    go_ret
    exact ⟨rfl, H1.out⟩
  have t1 : decide ((20000 : Int) < (bn : Int)) = false := by simp; omega
  have HL := hid (show b.length ≤ 20000 by have := HH.out.2.2.2.2.2; omega)
  clear c1
  go_wp2_with fail
  clear t1
  refine (bytes_walk _ b w1 _ (by have := HL.out; omega) (HB.out.keep H1.out (fun _ h => h))).mono ?_
  rintro e w2 ⟨iv, rfl, k2, hm2⟩
  obtain ⟨ia, im, ic, rfl⟩ := cells_form hm2.cells
  have z12 := k2.size
  have H2 := hid (And.intro (H1.out.trans (k2.mono (fun b h => Nat.lt_of_lt_of_le h H1.out.size))) (And.intro hm2 H1.out.size))
  clear k2 hm2
  go_wp2_with fail
  refine (get_bad _ b (.iface et ex) w2 _ Hb.out H2.out.2.1.cells HF.out (EE.out w2 H2.out.1).1 (EE.out w2 H2.out.1).2).mono ?_
  rintro e w3 ⟨rfl, k3⟩
  have cg3 := Cells.nil w3 (fun b => b < w3.heap.size)
  have hiG := frC_size zeros32_length 0 0 (.slice none 0 0)
  have h1G := frC_one 0 0 zeros32 (.slice none 0 0) rfl
  have hoG := hid (show 35 = (frC 0 0 zeros32 (.slice none 0 0)).toArray.size by rw [List.size_toArray, frC_length zeros32_length])
  have H3 := hid (And.intro (H2.out.1.trans (k3.mono (fun b h => Nat.lt_of_lt_of_le h H2.out.1.size))) (And.intro (H2.out.2.1.keep k3 (fun j _ h => h)) cg3))
  clear k3 cg3 z12
  go_upto_region 7 with (refine wpList_store_row rfl 49 (.tmp 4) (.tmp 26) rfl w3.heap.size (frC 0 0 zeros32 (.slice none 0 0)).toArray rfl rfl 49 _ (heap_alloc_new w3 _) hiG hoG.out h1G ?_)
  refine wp_world (fun w4 => Keep (· < w3.heap.size) w3 w4 ∧ w4.heap[w3.heap.size]? = some (.cells (frC 0 0 zeros32 (.slice none 0 0)).toArray 49 (0, 0)) ∧ w3.heap.size < w4.heap.size) ⟨((Keep.refl _ _).alloc _ (fun _ h => h)).setRow _ (by simp), heap_setRow (heap_alloc_new w3 _) _, by simp⟩ ?_
  rintro w4 ⟨k4, G4, z4⟩
  obtain ⟨G, hG⟩ : ∃ G, w3.heap.size = G := ⟨_, rfl⟩
  have zG : w.heap.size ≤ G := by rw [← hG]; exact H3.out.1.size
  have H4 := hid (And.intro (H3.out.1.trans (k4.mono (fun b h => Nat.lt_of_lt_of_le h H3.out.1.size))) (And.intro (H3.out.2.1.keep k4 (fun j _ h => h)) (H3.out.2.2.keep k4 (fun _ h => h))))
  rw [hG] at G4 z4 H4 ⊢
  have HG4 := hid G4
  clear k4 G4 h1G hoG hG H3
  go_wp2_with fail
  refine (rread_bad _ b w4 _ Hb.out (HB.out.keep H4.out.1 (fun _ h => h)) HF.out).mono ?_
  rintro e w5 ⟨rfl, k5⟩
  have ct5 := Cells.nil w5 (fun b => b < w5.heap.size)
  have cr5 := Cells.nil w5 (fun b => b < w5.heap.size)
  have hiR := rfr_size 0 0 (.slice none 0 0) (.slice none 0 0)
  have h1R := rfr_one 0 0 none none 0 0 0 0
  have H5 := hid (And.intro (H4.out.1.trans (k5.mono (fun b (h : b < w.heap.size) => by omega))) (And.intro (H4.out.2.1.keep k5 (fun j _ h => h)) (And.intro (H4.out.2.2.keep k5 (fun b h => Nat.lt_trans h z4)) (And.intro ct5 (And.intro cr5 ((k5.block _ z4).trans HG4.out))))))
  have z5 := Nat.lt_of_lt_of_le z4 k5.size
  clear k5 ct5 cr5 z4 H4 HG4
  go_upto_region 8 with (refine wpList_store_row rfl 83 (.tmp 6) (.tmp 31) rfl w5.heap.size (rfC 0 0 (.slice none 0 0) (.slice none 0 0)).toArray rfl rfl 83 _ (heap_alloc_new w5 _) hiR rfl h1R ?_)
  refine wp_world (fun w6 => Keep (· < w5.heap.size) w5 w6 ∧ w6.heap[w5.heap.size]? = some (.cells (rfC 0 0 (.slice none 0 0) (.slice none 0 0)).toArray 83 (0, 0)) ∧ w5.heap.size < w6.heap.size) ⟨((Keep.refl _ _).alloc _ (fun _ h => h)).setRow _ (by simp), heap_setRow (heap_alloc_new w5 _) _, by simp⟩ ?_
  rintro w6 ⟨k6, R6, z6⟩
  obtain ⟨R, hR⟩ : ∃ R, w5.heap.size = R := ⟨_, rfl⟩
  have H6 := hid (And.intro (H5.out.1.trans (k6.mono (fun b (h : b < w.heap.size) => by omega))) (And.intro (H5.out.2.1.keep k6 (fun j _ h => h)) (And.intro (H5.out.2.2.1.keep k6 (fun b h => Nat.lt_trans h z5)) (And.intro (H5.out.2.2.2.1.keep k6 (fun _ h => h)) (And.intro (H5.out.2.2.2.2.1.keep k6 (fun _ h => h)) (And.intro ((k6.block _ z5).trans H5.out.2.2.2.2.2) R6))))))
  rw [hR] at z6 z5 H6 ⊢
  clear k6 R6 H5 h1R hR
  go_wp2_with fail
  refine (greq_walk _ b w6 et ex _ Hb.out (by have := HL.out; omega) H6.out.2.1.cells (EE.out w6 H6.out.1).1 (EE.out w6 H6.out.1).2).mono ?_
  rintro e w7 ⟨k7, ⟨ho, he7⟩ | ⟨ho, he7⟩⟩
  rotate_left 1
  · rw [HA.out] at ho
    cases ho
  rw [HH.out.1, HH.out.2.2.2.1, HH.out.2.2.2.2.1] at he7
  subst he7
  have hiQ := rq_size t zn zf (b.drop 17)
  have h1Q := rq_one t zn zf (b.drop 17)
  have H7 := hid (And.intro (H6.out.1.trans (k7.mono (fun b (h : b < w.heap.size) => by omega))) (And.intro (H6.out.2.1.keep k7 (fun j _ h => h)) (And.intro (H6.out.2.2.1.keep k7 (fun b (h : b < G) => by omega)) (And.intro (H6.out.2.2.2.1.keep k7 (fun b (h : b < R) => by omega)) (And.intro (H6.out.2.2.2.2.1.keep k7 (fun b (h : b < R) => by omega)) (And.intro ((k7.block _ (by omega)).trans H6.out.2.2.2.2.2.1) ((k7.block _ z6).trans H6.out.2.2.2.2.2.2)))))))
  have z7 := Nat.lt_of_lt_of_le z6 k7.size
  clear k7 ho H6 z6
  go_upto_region 9 with (refine wpList_store_row rfl 55 (.tmp 8) (.tmp 36) rfl w7.heap.size (rqC t zn zf (b.drop 17)).toArray rfl rfl 55 _ (heap_alloc_new w7 _) hiQ rfl h1Q ?_)
  refine wp_world (fun w8 => Keep (· < w7.heap.size) w7 w8 ∧ w8.heap[w7.heap.size]? = some (.cells (rqC t zn zf (b.drop 17)).toArray 55 (0, 0)) ∧ w7.heap.size < w8.heap.size) ⟨((Keep.refl _ _).alloc _ (fun _ h => h)).setRow _ (by simp), heap_setRow (heap_alloc_new w7 _) _, by simp⟩ ?_
  rintro w8 ⟨k8, Q8, z8⟩
  obtain ⟨Q, hQ⟩ : ∃ Q, w7.heap.size = Q := ⟨_, rfl⟩
  have H8 := hid (And.intro (H7.out.1.trans (k8.mono (fun b (h : b < w.heap.size) => by omega))) (And.intro (H7.out.2.1.keep k8 (fun j _ h => h)) (And.intro (H7.out.2.2.1.keep k8 (fun b (h : b < G) => by omega)) (And.intro (H7.out.2.2.2.1.keep k8 (fun b (h : b < R) => by omega)) (And.intro (H7.out.2.2.2.2.1.keep k8 (fun b (h : b < R) => by omega)) (And.intro ((k8.block _ (by omega)).trans H7.out.2.2.2.2.2.1) (And.intro ((k8.block _ z7).trans H7.out.2.2.2.2.2.2) Q8)))))))
  rw [hQ] at z8 z7 H8 ⊢
  clear k8 Q8 H7 hQ
  go_wp2_with fail
  refine (asked_walk _ b w8 _ Hb.out (HB.out.keep H8.out.1 (fun _ h => h))).mono ?_
  rintro e w9 ⟨k9, ⟨ho, he9⟩ | ⟨ho, he9⟩⟩
  rotate_left 1
  · rw [HA.out] at ho
    cases ho
  rw [HH.out.1, HH.out.2.2.2.1, HH.out.2.2.2.2.1] at he9
  subst he9
  have H9 := hid (And.intro (H8.out.1.trans (k9.mono (fun b (h : b < w.heap.size) => by omega))) (And.intro (H8.out.2.1.keep k9 (fun j _ h => h)) (And.intro (H8.out.2.2.1.keep k9 (fun b (h : b < G) => by omega)) (And.intro (H8.out.2.2.2.1.keep k9 (fun b (h : b < R) => by omega)) (And.intro (H8.out.2.2.2.2.1.keep k9 (fun b (h : b < R) => by omega)) (And.intro ((k9.block _ (by omega)).trans H8.out.2.2.2.2.2.1) (And.intro ((k9.block _ (by omega)).trans H8.out.2.2.2.2.2.2.1) ((k9.block _ z8).trans H8.out.2.2.2.2.2.2.2))))))))
  have z9 := Nat.lt_of_lt_of_le z8 k9.size
  clear k9 ho H8 z8
  go_upto_region 10 with (refine wpList_store_row rfl 55 (.tmp 10) (.tmp 41) rfl w9.heap.size (rqC t zn zf (b.drop 17)).toArray rfl rfl 55 _ (heap_alloc_new w9 _) hiQ rfl h1Q ?_)
  refine wp_world (fun w10 => Keep (· < w9.heap.size) w9 w10 ∧ w10.heap[w9.heap.size]? = some (.cells (rqC t zn zf (b.drop 17)).toArray 55 (0, 0)) ∧ w9.heap.size < w10.heap.size) ⟨((Keep.refl _ _).alloc _ (fun _ h => h)).setRow _ (by simp), heap_setRow (heap_alloc_new w9 _) _, by simp⟩ ?_
  rintro w10 ⟨k10, S10, z10⟩
  obtain ⟨S, hS⟩ : ∃ S, w9.heap.size = S := ⟨_, rfl⟩
  have H10 := hid (And.intro (H9.out.1.trans (k10.mono (fun b (h : b < w.heap.size) => by omega))) (And.intro (H9.out.2.1.keep k10 (fun j _ h => h)) (And.intro (H9.out.2.2.1.keep k10 (fun b (h : b < G) => by omega)) (And.intro (H9.out.2.2.2.1.keep k10 (fun b (h : b < R) => by omega)) (And.intro (H9.out.2.2.2.2.1.keep k10 (fun b (h : b < R) => by omega)) (And.intro ((k10.block _ (by omega)).trans H9.out.2.2.2.2.2.1) (And.intro ((k10.block _ (by omega)).trans H9.out.2.2.2.2.2.2.1) (And.intro ((k10.block _ z9).trans H9.out.2.2.2.2.2.2.2) S10))))))))
  rw [hS] at z10 z9 H10 ⊢
  clear k10 S10 H9 hS
  have hne := fun w0 => neq_req t zn zf (b.drop 17) w0
  have ld := req_guard
  go_wp2_with (first | refine wpList_load_row_if (by rfl) 55 (.tmp 8) rfl Q rfl 55 _ (0, 0) _ H10.out.2.2.2.2.2.2.2.1 Tryd.underlying55 rfl hiQ ?_ | refine wpList_load_row_if (by rfl) 55 (.tmp 10) rfl S rfl 55 _ (0, 0) _ H10.out.2.2.2.2.2.2.2.2 Tryd.underlying55 rfl hiQ ?_ | refine wpList_load_row_if (by rfl) 49 (.tmp 4) rfl G rfl 49 _ (0, 0) _ H10.out.2.2.2.2.2.1 Tryd.underlying49 rfl hiG ?_ | refine wpList_load_row_if (by rfl) 83 (.tmp 6) rfl R rfl 83 _ (0, 0) _ H10.out.2.2.2.2.2.2.1 Tryd.underlying83 rfl hiR ?_)
  clear hne ld
  refine (same21_walk 0 0 zeros32 [] _ _ _ w10 _ _ _ zeros32_length (.inr ⟨H10.out.2.2.2.1, rfl⟩) H10.out.2.2.1 H10.out.2.2.2.2.1).mono ?_
  rintro e w11 ⟨rfl, k11⟩
  have H11 := hid (And.intro (H10.out.1.trans (k11.mono (fun b (h : b < w.heap.size) => by omega))) (And.intro (H10.out.2.1.keep k11 (fun j _ h => h)) (And.intro (H10.out.2.2.1.keep k11 (fun b (h : b < G) => by omega)) (And.intro ((k11.block _ (by omega)).trans H10.out.2.2.2.2.2.1) ((k11.block _ (by omega)).trans H10.out.2.2.2.2.2.2.2.1)))))
  have z11 := Nat.lt_of_lt_of_le z10 k11.size
  clear k11 H10 z10
  go_wp2_with fail
  refine (kept_walk _ _ _ b w11 _ (by have := HL.out; omega) H11.out.2.1 (HB.out.keep H11.out.1 (fun _ h => h))).mono ?_
  rintro e w12 ⟨rfl, k12⟩
  have H12 := hid (And.intro (H11.out.1.trans (k12.mono (fun _ _ => trivial))) (And.intro (H11.out.2.2.1.keep k12 (fun _ _ => trivial)) (And.intro ((k12.block _ trivial).trans H11.out.2.2.2.1) ((k12.block _ trivial).trans H11.out.2.2.2.2))))
  have z12 := Nat.lt_of_lt_of_le z11 k12.size
  clear k12 H11 z11
  go_wp2_with fail
  refine (NE.out w12 H12.out.1).mono ?_
  rintro e w13 ⟨rfl, kn⟩
  have H13 := hid (And.intro (H12.out.1.trans (kn.mono (fun b (h : b < w.heap.size) => by omega))) (And.intro (H12.out.2.1.keep kn (fun b (h : b < G) => by omega)) (And.intro ((kn.block _ (by omega)).trans H12.out.2.2.1) ((kn.block _ (by omega)).trans H12.out.2.2.2))))
  have z13 := Nat.lt_of_lt_of_le z12 kn.size
  clear kn H12 z12
  go_wp2_with (refine wpList_load_row rfl 55 (.tmp 8) rfl Q rfl 55 _ (0, 0) _ H13.out.2.2.2 Tryd.underlying55 rfl hiQ ?_)
  refine (preq_walk t zn zf (b.drop 17) w13 et ex (fun x hx => Hb.out x (List.mem_of_mem_drop hx)) (by rw [List.length_drop]; have := HL.out; omega) (EE.out _ H13.out.1).1 (EE.out _ H13.out.1).2).mono ?_
  have hok : Wr.reqOk t (b.drop 17) = true := by
    have := HA.out
    unfold Wr.isAsk at this
    rw [Bool.and_eq_true, HH.out.1] at this
    exact this.2
  have hrq : Wr.reqBytes t zn zf (b.drop 17) = b := by
    rw [← HH.out.1, ← HH.out.2.2.2.1, ← HH.out.2.2.2.2.1]
    exact req_of b Hb.out HA.out
  rintro e wq ⟨kq, ⟨_, qv, rfl, cq⟩ | ⟨ho, _⟩⟩
  rotate_left 1
  · rw [hok] at ho
    cases ho
  rw [hrq] at cq
  obtain ⟨qa, qn, qc, rfl⟩ := cells_form cq
  have kwq := H13.out.1.trans (kq.mono (fun b (h : b < w.heap.size) => by omega))
  have cw1 := conv_bytes21 wq cq
  have cw2 := conv_bytes21 wq (HB.out.keep kwq (fun _ h => h))
  have eB2 : ((bstr b).toList == (bstr b).toList) = true := by simp
  have HZ := hid kwq
  clear kq kwq cq hok hrq
  go_wp2_with fail
  go_ret
  exact ⟨rfl, HZ.out⟩

set_option maxRecDepth 100000 in
set_option maxHeartbeats 8000000 in
theorem reads_ff (bv : Value) (b : List Nat) (xs : List Addr) (w : World) (p : Nat → Prop) (hb : ∀ x ∈ b, x < 256) (hT : TurnsAt w) (he : ErrsAt w errGs xs) (hd : xs.Nodup) (hbv : Cells w p bv (ints .u8 b)) (hF : Wr.isFrame b = false) (hA : Wr.isAsk b = false) :
    Calls Tryd.prog 10 #[bv] w fun e w' => e = .returned (.bool true) ∧ Keep (· < w.heap.size) w w' := by
  have HB := hid (hbv.lt.mono (q := fun b => b < w.heap.size) (fun _ h => h.1))
  have HT := hid hT
  have Hb := hid hb
  have HF := hid hF
  have HA := hid hA
  obtain ⟨et, ex, hev⟩ : ∃ et ex, errV xs 11 = .iface et ex := ⟨_, _, rfl⟩
  have EE := hid (show ∀ w0 : World, Keep (· < w.heap.size) w w0 → w0.cell? ⟨11, 0, none⟩ = some (.iface et ex) ∧ 11 < w0.heap.size from fun w0 k => by
    have := errs_at (he.keep k (fun _ h => h)) 10 _ rfl
    rwa [hev] at this)
  have NE := hid (show ∀ w0 : World, Keep (· < w.heap.size) w w0 → Calls Tryd.prog 19 #[.iface et ex] w0 (fun e w' => e = .returned (.int .i64 11) ∧ Keep (· < w0.heap.size) w0 w') from fun w0 k => by
    have := num_err xs 11 w0 (by decide) (he.keep k (fun _ h => h)) hd
    rw [hev] at this
    exact this)
  obtain ⟨ba, bn, bc, rfl⟩ := cells_form hbv
  have hbn : bn = b.length := by
    obtain ⟨_, _, _, e, h1, _⟩ := id hbv
    injection e with _ e2 _
    rw [e2, h1, ints_length]
  obtain ⟨t, ht⟩ : ∃ t : Int, ((b.getD 0 0 : Nat) : Int) = t := ⟨_, rfl⟩
  obtain ⟨s, hs⟩ : ∃ s : Int, ((Wr.seqOf b : Nat) : Int) = s := ⟨_, rfl⟩
  obtain ⟨tag, htag⟩ : ∃ tag, (b.drop 9).take 32 = tag := ⟨_, rfl⟩
  obtain ⟨zn, hzn⟩ : ∃ z, Wr.i64 (Wr.askN b) = z := ⟨_, rfl⟩
  obtain ⟨zf, hzf⟩ : ∃ z, Wr.i64 (Wr.askF b) = z := ⟨_, rfl⟩
  have HH := hid (And.intro ht (And.intro hs (And.intro htag (And.intro hzn (And.intro hzf hbn)))))
  clear hbv hT hb he hd hev hF hA ht hs htag hzn hzf hbn
  go_enter Tryd.func10, Tryd.ntmps10
  go_wp2_with fail
  refine (alive21_walk w HT.out).mono ?_
  rintro e w1 ⟨rfl, k1⟩
  have H1 := hid k1
  clear k1
  by_cases c1 : 20000 < bn
  · have t1 : decide ((20000 : Int) < (bn : Int)) = true := by simp; omega
    go_wp2_with fail
    go_ret
    exact ⟨rfl, H1.out⟩
  have t1 : decide ((20000 : Int) < (bn : Int)) = false := by simp; omega
  have HL := hid (show b.length ≤ 20000 by have := HH.out.2.2.2.2.2; omega)
  clear c1
  go_wp2_with fail
  clear t1
  refine (bytes_walk _ b w1 _ (by have := HL.out; omega) (HB.out.keep H1.out (fun _ h => h))).mono ?_
  rintro e w2 ⟨iv, rfl, k2, hm2⟩
  obtain ⟨ia, im, ic, rfl⟩ := cells_form hm2.cells
  have z12 := k2.size
  have H2 := hid (And.intro (H1.out.trans (k2.mono (fun b h => Nat.lt_of_lt_of_le h H1.out.size))) (And.intro hm2 H1.out.size))
  clear k2 hm2
  go_wp2_with fail
  refine (get_bad _ b (.iface et ex) w2 _ Hb.out H2.out.2.1.cells HF.out (EE.out w2 H2.out.1).1 (EE.out w2 H2.out.1).2).mono ?_
  rintro e w3 ⟨rfl, k3⟩
  have cg3 := Cells.nil w3 (fun b => b < w3.heap.size)
  have hiG := frC_size zeros32_length 0 0 (.slice none 0 0)
  have h1G := frC_one 0 0 zeros32 (.slice none 0 0) rfl
  have hoG := hid (show 35 = (frC 0 0 zeros32 (.slice none 0 0)).toArray.size by rw [List.size_toArray, frC_length zeros32_length])
  have H3 := hid (And.intro (H2.out.1.trans (k3.mono (fun b h => Nat.lt_of_lt_of_le h H2.out.1.size))) (And.intro (H2.out.2.1.keep k3 (fun j _ h => h)) cg3))
  clear k3 cg3 z12
  go_upto_region 7 with (refine wpList_store_row rfl 49 (.tmp 4) (.tmp 26) rfl w3.heap.size (frC 0 0 zeros32 (.slice none 0 0)).toArray rfl rfl 49 _ (heap_alloc_new w3 _) hiG hoG.out h1G ?_)
  refine wp_world (fun w4 => Keep (· < w3.heap.size) w3 w4 ∧ w4.heap[w3.heap.size]? = some (.cells (frC 0 0 zeros32 (.slice none 0 0)).toArray 49 (0, 0)) ∧ w3.heap.size < w4.heap.size) ⟨((Keep.refl _ _).alloc _ (fun _ h => h)).setRow _ (by simp), heap_setRow (heap_alloc_new w3 _) _, by simp⟩ ?_
  rintro w4 ⟨k4, G4, z4⟩
  obtain ⟨G, hG⟩ : ∃ G, w3.heap.size = G := ⟨_, rfl⟩
  have zG : w.heap.size ≤ G := by rw [← hG]; exact H3.out.1.size
  have H4 := hid (And.intro (H3.out.1.trans (k4.mono (fun b h => Nat.lt_of_lt_of_le h H3.out.1.size))) (And.intro (H3.out.2.1.keep k4 (fun j _ h => h)) (H3.out.2.2.keep k4 (fun _ h => h))))
  rw [hG] at G4 z4 H4 ⊢
  have HG4 := hid G4
  clear k4 G4 h1G hoG hG H3
  go_wp2_with fail
  refine (rread_bad _ b w4 _ Hb.out (HB.out.keep H4.out.1 (fun _ h => h)) HF.out).mono ?_
  rintro e w5 ⟨rfl, k5⟩
  have ct5 := Cells.nil w5 (fun b => b < w5.heap.size)
  have cr5 := Cells.nil w5 (fun b => b < w5.heap.size)
  have hiR := rfr_size 0 0 (.slice none 0 0) (.slice none 0 0)
  have h1R := rfr_one 0 0 none none 0 0 0 0
  have H5 := hid (And.intro (H4.out.1.trans (k5.mono (fun b (h : b < w.heap.size) => by omega))) (And.intro (H4.out.2.1.keep k5 (fun j _ h => h)) (And.intro (H4.out.2.2.keep k5 (fun b h => Nat.lt_trans h z4)) (And.intro ct5 (And.intro cr5 ((k5.block _ z4).trans HG4.out))))))
  have z5 := Nat.lt_of_lt_of_le z4 k5.size
  clear k5 ct5 cr5 z4 H4 HG4
  go_upto_region 8 with (refine wpList_store_row rfl 83 (.tmp 6) (.tmp 31) rfl w5.heap.size (rfC 0 0 (.slice none 0 0) (.slice none 0 0)).toArray rfl rfl 83 _ (heap_alloc_new w5 _) hiR rfl h1R ?_)
  refine wp_world (fun w6 => Keep (· < w5.heap.size) w5 w6 ∧ w6.heap[w5.heap.size]? = some (.cells (rfC 0 0 (.slice none 0 0) (.slice none 0 0)).toArray 83 (0, 0)) ∧ w5.heap.size < w6.heap.size) ⟨((Keep.refl _ _).alloc _ (fun _ h => h)).setRow _ (by simp), heap_setRow (heap_alloc_new w5 _) _, by simp⟩ ?_
  rintro w6 ⟨k6, R6, z6⟩
  obtain ⟨R, hR⟩ : ∃ R, w5.heap.size = R := ⟨_, rfl⟩
  have H6 := hid (And.intro (H5.out.1.trans (k6.mono (fun b (h : b < w.heap.size) => by omega))) (And.intro (H5.out.2.1.keep k6 (fun j _ h => h)) (And.intro (H5.out.2.2.1.keep k6 (fun b h => Nat.lt_trans h z5)) (And.intro (H5.out.2.2.2.1.keep k6 (fun _ h => h)) (And.intro (H5.out.2.2.2.2.1.keep k6 (fun _ h => h)) (And.intro ((k6.block _ z5).trans H5.out.2.2.2.2.2) R6))))))
  rw [hR] at z6 z5 H6 ⊢
  clear k6 R6 H5 h1R hR
  go_wp2_with fail
  refine (greq_walk _ b w6 et ex _ Hb.out (by have := HL.out; omega) H6.out.2.1.cells (EE.out w6 H6.out.1).1 (EE.out w6 H6.out.1).2).mono ?_
  rintro e w7 ⟨k7, ⟨ho, he7⟩ | ⟨ho, he7⟩⟩
  rotate_left 0
  · rw [HA.out] at ho
    cases ho
  subst he7
  have hiQ := rq_size 0 0 0 []
  have h1Q := rq_one 0 0 0 []
  have H7 := hid (And.intro (H6.out.1.trans (k7.mono (fun b (h : b < w.heap.size) => by omega))) (And.intro (H6.out.2.1.keep k7 (fun j _ h => h)) (And.intro (H6.out.2.2.1.keep k7 (fun b (h : b < G) => by omega)) (And.intro (H6.out.2.2.2.1.keep k7 (fun b (h : b < R) => by omega)) (And.intro (H6.out.2.2.2.2.1.keep k7 (fun b (h : b < R) => by omega)) (And.intro ((k7.block _ (by omega)).trans H6.out.2.2.2.2.2.1) ((k7.block _ z6).trans H6.out.2.2.2.2.2.2)))))))
  have z7 := Nat.lt_of_lt_of_le z6 k7.size
  clear k7 ho H6 z6
  go_upto_region 9 with (refine wpList_store_row rfl 55 (.tmp 8) (.tmp 36) rfl w7.heap.size (rqC 0 0 0 []).toArray rfl rfl 55 _ (heap_alloc_new w7 _) hiQ rfl h1Q ?_)
  refine wp_world (fun w8 => Keep (· < w7.heap.size) w7 w8 ∧ w8.heap[w7.heap.size]? = some (.cells (rqC 0 0 0 []).toArray 55 (0, 0)) ∧ w7.heap.size < w8.heap.size) ⟨((Keep.refl _ _).alloc _ (fun _ h => h)).setRow _ (by simp), heap_setRow (heap_alloc_new w7 _) _, by simp⟩ ?_
  rintro w8 ⟨k8, Q8, z8⟩
  obtain ⟨Q, hQ⟩ : ∃ Q, w7.heap.size = Q := ⟨_, rfl⟩
  have H8 := hid (And.intro (H7.out.1.trans (k8.mono (fun b (h : b < w.heap.size) => by omega))) (And.intro (H7.out.2.1.keep k8 (fun j _ h => h)) (And.intro (H7.out.2.2.1.keep k8 (fun b (h : b < G) => by omega)) (And.intro (H7.out.2.2.2.1.keep k8 (fun b (h : b < R) => by omega)) (And.intro (H7.out.2.2.2.2.1.keep k8 (fun b (h : b < R) => by omega)) (And.intro ((k8.block _ (by omega)).trans H7.out.2.2.2.2.2.1) (And.intro ((k8.block _ z7).trans H7.out.2.2.2.2.2.2) Q8)))))))
  rw [hQ] at z8 z7 H8 ⊢
  clear k8 Q8 H7 hQ
  go_wp2_with fail
  refine (asked_walk _ b w8 _ Hb.out (HB.out.keep H8.out.1 (fun _ h => h))).mono ?_
  rintro e w9 ⟨k9, ⟨ho, he9⟩ | ⟨ho, he9⟩⟩
  rotate_left 0
  · rw [HA.out] at ho
    cases ho
  subst he9
  have H9 := hid (And.intro (H8.out.1.trans (k9.mono (fun b (h : b < w.heap.size) => by omega))) (And.intro (H8.out.2.1.keep k9 (fun j _ h => h)) (And.intro (H8.out.2.2.1.keep k9 (fun b (h : b < G) => by omega)) (And.intro (H8.out.2.2.2.1.keep k9 (fun b (h : b < R) => by omega)) (And.intro (H8.out.2.2.2.2.1.keep k9 (fun b (h : b < R) => by omega)) (And.intro ((k9.block _ (by omega)).trans H8.out.2.2.2.2.2.1) (And.intro ((k9.block _ (by omega)).trans H8.out.2.2.2.2.2.2.1) ((k9.block _ z8).trans H8.out.2.2.2.2.2.2.2))))))))
  have z9 := Nat.lt_of_lt_of_le z8 k9.size
  clear k9 ho H8 z8
  go_upto_region 10 with (refine wpList_store_row rfl 55 (.tmp 10) (.tmp 41) rfl w9.heap.size (rqC 0 0 0 []).toArray rfl rfl 55 _ (heap_alloc_new w9 _) hiQ rfl h1Q ?_)
  refine wp_world (fun w10 => Keep (· < w9.heap.size) w9 w10 ∧ w10.heap[w9.heap.size]? = some (.cells (rqC 0 0 0 []).toArray 55 (0, 0)) ∧ w9.heap.size < w10.heap.size) ⟨((Keep.refl _ _).alloc _ (fun _ h => h)).setRow _ (by simp), heap_setRow (heap_alloc_new w9 _) _, by simp⟩ ?_
  rintro w10 ⟨k10, S10, z10⟩
  obtain ⟨S, hS⟩ : ∃ S, w9.heap.size = S := ⟨_, rfl⟩
  have H10 := hid (And.intro (H9.out.1.trans (k10.mono (fun b (h : b < w.heap.size) => by omega))) (And.intro (H9.out.2.1.keep k10 (fun j _ h => h)) (And.intro (H9.out.2.2.1.keep k10 (fun b (h : b < G) => by omega)) (And.intro (H9.out.2.2.2.1.keep k10 (fun b (h : b < R) => by omega)) (And.intro (H9.out.2.2.2.2.1.keep k10 (fun b (h : b < R) => by omega)) (And.intro ((k10.block _ (by omega)).trans H9.out.2.2.2.2.2.1) (And.intro ((k10.block _ (by omega)).trans H9.out.2.2.2.2.2.2.1) (And.intro ((k10.block _ z9).trans H9.out.2.2.2.2.2.2.2) S10))))))))
  rw [hS] at z10 z9 H10 ⊢
  clear k10 S10 H9 hS
  have hne := fun w0 => neq_req 0 0 0 [] w0
  have ld := req_guard
  go_wp2_with (first | refine wpList_load_row_if (by rfl) 55 (.tmp 8) rfl Q rfl 55 _ (0, 0) _ H10.out.2.2.2.2.2.2.2.1 Tryd.underlying55 rfl hiQ ?_ | refine wpList_load_row_if (by rfl) 55 (.tmp 10) rfl S rfl 55 _ (0, 0) _ H10.out.2.2.2.2.2.2.2.2 Tryd.underlying55 rfl hiQ ?_ | refine wpList_load_row_if (by rfl) 49 (.tmp 4) rfl G rfl 49 _ (0, 0) _ H10.out.2.2.2.2.2.1 Tryd.underlying49 rfl hiG ?_ | refine wpList_load_row_if (by rfl) 83 (.tmp 6) rfl R rfl 83 _ (0, 0) _ H10.out.2.2.2.2.2.2.1 Tryd.underlying83 rfl hiR ?_)
  clear hne ld
  refine (same21_walk 0 0 zeros32 [] _ _ _ w10 _ _ _ zeros32_length (.inr ⟨H10.out.2.2.2.1, rfl⟩) H10.out.2.2.1 H10.out.2.2.2.2.1).mono ?_
  rintro e w11 ⟨rfl, k11⟩
  have H11 := hid (And.intro (H10.out.1.trans (k11.mono (fun b (h : b < w.heap.size) => by omega))) (And.intro (H10.out.2.1.keep k11 (fun j _ h => h)) (And.intro (H10.out.2.2.1.keep k11 (fun b (h : b < G) => by omega)) (And.intro ((k11.block _ (by omega)).trans H10.out.2.2.2.2.2.1) ((k11.block _ (by omega)).trans H10.out.2.2.2.2.2.2.2.1)))))
  have z11 := Nat.lt_of_lt_of_le z10 k11.size
  clear k11 H10 z10
  go_wp2_with fail
  refine (kept_walk _ _ _ b w11 _ (by have := HL.out; omega) H11.out.2.1 (HB.out.keep H11.out.1 (fun _ h => h))).mono ?_
  rintro e w12 ⟨rfl, k12⟩
  have H12 := hid (And.intro (H11.out.1.trans (k12.mono (fun _ _ => trivial))) (And.intro (H11.out.2.2.1.keep k12 (fun _ _ => trivial)) (And.intro ((k12.block _ trivial).trans H11.out.2.2.2.1) ((k12.block _ trivial).trans H11.out.2.2.2.2))))
  have z12 := Nat.lt_of_lt_of_le z11 k12.size
  clear k12 H11 z11
  go_wp2_with fail
  refine (NE.out w12 H12.out.1).mono ?_
  rintro e w13 ⟨rfl, kn⟩
  have H13 := hid (And.intro (H12.out.1.trans (kn.mono (fun b (h : b < w.heap.size) => by omega))) (And.intro (H12.out.2.1.keep kn (fun b (h : b < G) => by omega)) (And.intro ((kn.block _ (by omega)).trans H12.out.2.2.1) ((kn.block _ (by omega)).trans H12.out.2.2.2))))
  have z13 := Nat.lt_of_lt_of_le z12 kn.size
  clear kn H12 z12
  go_wp2_with fail
  refine (NE.out w13 H13.out.1).mono ?_
  rintro e w14 ⟨rfl, kn⟩
  have H14 := hid (And.intro (H13.out.1.trans (kn.mono (fun b (h : b < w.heap.size) => by omega))) (And.intro (H13.out.2.1.keep kn (fun b (h : b < G) => by omega)) (And.intro ((kn.block _ (by omega)).trans H13.out.2.2.1) ((kn.block _ (by omega)).trans H13.out.2.2.2))))
  have z14 := Nat.lt_of_lt_of_le z13 kn.size
  clear kn H13 z13
  go_wp2_with fail
  go_ret
  exact ⟨rfl, H14.out.1⟩
theorem wireReads_walk (bv : Value) (b : List Nat) (xs : List Addr) (w : World) (p : Nat → Prop) (hb : ∀ x ∈ b, x < 256) (hT : TurnsAt w) (he : ErrsAt w errGs xs) (hd : xs.Nodup) (hbv : Cells w p bv (ints .u8 b)) :
    Calls Tryd.prog 10 #[bv] w fun e w' => e = .returned (.bool true) ∧ Keep (· < w.heap.size) w w' := by
  cases hF : Wr.isFrame b with
  | true =>
    cases hA : Wr.isAsk b with
    | true => exact reads_tt bv b xs w p hb hT he hd hbv hF hA
    | false => exact reads_tf bv b xs w p hb hT he hd hbv hF hA
  | false =>
    cases hA : Wr.isAsk b with
    | true => exact reads_ft bv b xs w p hb hT he hd hbv hF hA
    | false => exact reads_ff bv b xs w p hb hT he hd hbv hF hA
end Go.Proofs.YtnpneippahdigaaDoor
