/-
  Step by step: 'Request' of the reference 21.
-/
import Derived.Test.YtnpneippahdigaaDoorWireN
import Derived.Test.YtnpneippahdigaaDoorWireR
import Derived.Lib.AppendStr
import Derived.Test.YtnpneippahdigaaDoorTxt5
namespace Go.Proofs.YtnpneippahdigaaDoor
open Go.RowKit Go.Proofs.Mem Go.Proofs.Txt

set_option maxRecDepth 100000 in
set_option maxHeartbeats 1000000 in
theorem rreq_bad (k n f : Int) (text : List Nat) (w : World) (hx : ∀ x ∈ text, x < 256) (hl : text.length ≤ 1099511627776) (hr : Wr.reqOk k text = false) :
    Calls Tryd.prog 30 #[.agg (rqC k n f text).toArray] w fun e w' => e = .returned (.tuple #[.slice none 0 0, .bool false]) ∧ Keep (· < w.heap.size) w w' := by
  have hb := heap_alloc_new w (.cells (rqC k n f text).toArray 55)
  have c0 := (cell_at hb 0).trans (show (rqC k n f text)[0]? = some (.int .i64 k) from rfl)
  have c3 := (cell_at hb 3).trans (show (rqC k n f text)[3]? = some (.string (bstr text)) from rfl)
  have k0 := hid (show Keep (· < w.heap.size) w (w.alloc (.cells (rqC k n f text).toArray 55)) from (Keep.refl _ _).alloc _ (fun _ h => h))
  have eS : ((bstr text).toList == (ByteArray.mk #[]).toList) = decide (text = []) := bstr_beq (b := []) hx (by simp)
  have e0 : (ByteArray.mk #[]).toList = [] := by rw [ByteArray.toList_eq]
  rw [e0] at eS
  have es := bstr_size text
  have hc : k < 1 ∨ (1 ≤ k ∧ 7 < k) ∨ (1 ≤ k ∧ k ≤ 7 ∧ k ≠ 1 ∧ text ≠ []) ∨ (k = 1 ∧ 16326 < text.length) := by
    by_cases h : 1 ≤ k ∧ k ≤ 7 ∧ (k = 1 ∨ text.length = 0) ∧ 17 + text.length ≤ 16343
    · rw [(Wr.reqOk_iff k text).2 h] at hr; cases hr
    · by_cases a3 : text = []
      · have h0 : text.length = 0 := by rw [a3]; rfl
        omega
      · have := List.length_pos_iff.2 a3
        by_cases a1 : k < 1
        · exact .inl a1
        by_cases a2 : 7 < k
        · exact .inr (.inl ⟨by omega, a2⟩)
        by_cases a4 : k = 1
        · exact .inr (.inr (.inr ⟨a4, by omega⟩))
        · exact .inr (.inr (.inl ⟨by omega, by omega, a4, a3⟩))
  clear hb hx hr e0
  rcases hc with hc | hc | ⟨h1, h2, h3, h4⟩ | ⟨rfl, hc⟩
  · have t1 : decide (k < 1) = true := by simp; omega
    clear hc eS
    go_enter Tryd.func30, Tryd.ntmps30
    go_wp2_with fail
    go_ret2
    exact ⟨rfl, k0.out⟩
  · have t1 : decide (k < 1) = false := by simp; omega
    have t2 : decide (7 < k) = true := by simp; omega
    clear hc eS
    go_enter Tryd.func30, Tryd.ntmps30
    go_wp2_with fail
    go_ret2
    exact ⟨rfl, k0.out⟩
  · have t1 : decide (k < 1) = false := by simp; omega
    have t2 : decide (7 < k) = false := by simp; omega
    have t3 : (k == 1) = false := by simp; exact h3
    have t3a : (k != 1) = true := by simp; exact h3
    have hk1 : ¬ k = 1 := h3
    have eP : ¬ (bstr text).toList = [] := fun h => by rw [h] at eS; simp at eS; exact h4 eS
    have eQ : ((bstr text).toList == []) = false := by rw [eS]; simp; exact h4
    clear h1 h2 h3 h4 eS
    go_enter Tryd.func30, Tryd.ntmps30
    go_wp2_with fail
    go_ret2
    exact ⟨rfl, k0.out⟩
  · have t1 : decide ((16326 : Int) < (text.length : Int)) = true := by simp; omega
    clear hc eS
    go_enter Tryd.func30, Tryd.ntmps30
    go_wp2_with fail
    go_ret2
    exact ⟨rfl, k0.out⟩

theorem str_cells21 (xs : List Nat) (hx : ∀ x ∈ xs, x < 256) : Lib.strCells (bstr xs) = ints .u8 xs := by
  unfold Lib.strCells bstr ints
  simp only [List.map_map]
  apply List.map_congr_left
  intro x h
  have := hx x h
  simp only [Function.comp]
  congr 1
  simp; omega
/-- a string's bytes appended. -/
theorem Gr.appStr {w2 w : World} {v : Value} {cs : List Value} (h : Gr w2 w v cs) (ty : TypeId) (xs : List Nat) (hx : ∀ x ∈ xs, x < 256) (hb : cs.length + xs.length ≤ 140737488355328) :
    ∃ v' w', (Builtin.append_ #[32, 9] ty #[v, .string (bstr xs)]).run Tryd.prog w = .ok v' w' ∧ Gr w2 w' v' (cs ++ ints .u8 xs) := by
  obtain ⟨i0, hi0, hz0, hs0, hb0⟩ := u8_info
  have z := h.keep.size
  have hown : w.ownsRow w2.heap.size 5 1 v cs.length cs := by
    refine ⟨h.row.1, ?_⟩
    rcases h.row.2 with hn | ⟨g, cap, cur, rfl, h0, hrest⟩
    · exact .inl hn
    · exact .inr ⟨g, cap, cur, rfl, h.own g rfl, hrest⟩
  obtain ⟨v', w', hr, ho, hg, _⟩ := Lib.run_append_own_string (P := Tryd.prog) w w2.heap.size 32 9 ty 5 i0 Tryd.underlying32 Tryd.underlying9 hi0 hz0 hs0 hb0 v cs.length cs hown (bstr xs) (by rw [bstr_size]; unfold maxLen; omega) (by rw [bstr_size]; exact hb) z
  rw [str_cells21 xs hx, bstr_size] at ho
  refine ⟨v', w', hr, ⟨?_, ?_⟩, ?_, fun k hk => (World.ownsRow.lt ho k hk).1⟩
  · rw [List.length_append, ints_length, Nat.mul_one]
  · rw [List.length_append, ints_length]
    rcases ho.2 with hn | ⟨g, cap, cur, rfl, _, hrest⟩
    · exact .inl hn
    · exact .inr ⟨g, cap, cur, rfl, Nat.zero_le _, hrest⟩
  · exact h.keep.grown hg (fun k hk => ⟨by omega, fun e => by have := h.own k e.symm; omega⟩)

theorem gr_num {w1 w w' : World} {v : Value} {cs : List Value} (h : Gr w1 w v cs) (k : Keep (· < w.heap.size) w w') : Gr w1 w' v cs :=
  ⟨h.row.keep k (fun _ hb => h.row.lt hb), h.keep.trans (k.mono (fun _ hb => Nat.lt_of_lt_of_le hb h.keep.size)), h.own⟩
theorem gr_one {w1 w : World} (k : Keep (· < w1.heap.size) w1 w) (x : Nat) : Gr w1 (w.alloc (.cells (ints .u8 [x]).toArray 5)) (.slice (some ⟨w.heap.size, 0, none⟩) 1 1) (ints .u8 [x]) :=
  ⟨row_made w (ints .u8 [x]) (by simp [ints]), k.alloc _ (fun _ h => Nat.lt_of_lt_of_le h k.size), fun b hb => by
    have e : w.heap.size = b := Option.some.inj hb
    have := k.size
    omega⟩

set_option maxRecDepth 100000 in
set_option maxHeartbeats 4000000 in
theorem rreq_good (k n f : Int) (text : List Nat) (w : World) (hx : ∀ x ∈ text, x < 256) (hr : Wr.reqOk k text = true) :
    Calls Tryd.prog 30 #[.agg (rqC k n f text).toArray] w fun e w' => ∃ v, e = .returned (.tuple #[v, .bool true]) ∧ Fresh w' w.heap.size v (ints .u8 (Wr.reqBytes k n f text)) ∧ Keep (· < w.heap.size) w w' := by
  obtain ⟨h1, h2, h3, h4⟩ := (Wr.reqOk_iff k text).1 hr
  have HX := hid hx
  have HT := hid h4
  have e8 := u8_wrap k
  obtain ⟨x, hxx⟩ : ∃ x, Wr.u8 k = x := ⟨_, rfl⟩
  rw [hxx] at e8
  have HXX := hid hxx
  have eS : ((bstr text).toList == (ByteArray.mk #[]).toList) = decide (text = []) := bstr_beq (b := []) hx (by simp)
  have e0 : (ByteArray.mk #[]).toList = [] := by rw [ByteArray.toList_eq]
  rw [e0] at eS
  have es := bstr_size text
  clear hxx hr e0
  go_enter Tryd.func30, Tryd.ntmps30
  go_upto_region 1 with fail
  refine wp_world (fun w1 => Keep (· < w.heap.size) w w1 ∧ w1.heap[w.heap.size]? = some (.cells (rqC k n f text).toArray 55 (0, 0)) ∧ w.heap.size < w1.heap.size) ⟨(Keep.refl _ _).alloc _ (fun _ h => h), heap_alloc_new w _, by simp⟩ ?_
  rintro w1 ⟨k1, R1, z1⟩
  have SS := hid (show ∀ wx : World, Keep (· < w1.heap.size) w1 wx → wx.cell? ⟨w.heap.size, 0, none⟩ = some (.int .i64 k) ∧ wx.cell? ⟨w.heap.size, 1, none⟩ = some (.int .i64 n) ∧ wx.cell? ⟨w.heap.size, 2, none⟩ = some (.int .i64 f) ∧ wx.cell? ⟨w.heap.size, 3, none⟩ = some (.string (bstr text)) from fun wx kx =>
    ⟨(kx.cell (x := ⟨_, 0, none⟩) z1).trans (cell_at R1 0), (kx.cell (x := ⟨_, 1, none⟩) z1).trans (cell_at R1 1), (kx.cell (x := ⟨_, 2, none⟩) z1).trans (cell_at R1 2), (kx.cell (x := ⟨_, 3, none⟩) z1).trans (cell_at R1 3)⟩)
  have K1 := hid k1
  obtain ⟨s0, s1, s2, s3⟩ := SS.out w1 (Keep.refl _ _)
  clear k1 R1
  have t1 : decide (k < 1) = false := by simp; omega
  have t2 : decide (7 < k) = false := by simp; omega
  have t6 : decide ((16326 : Int) < (text.length : Int)) = false := by simp; omega
  have hk : k = 1 ∨ (¬ k = 1 ∧ text = []) := by
    by_cases a : k = 1
    · exact .inl a
    · exact .inr ⟨a, List.eq_nil_of_length_eq_zero (h3.resolve_left a)⟩
  clear hx h1 h2 h3 h4
  rcases hk with rfl | ⟨hk1, rfl⟩
  · have u1 : ((1 : Int) != 1) = false := rfl
    go_upto_region 3 with fail
    refine wp_world (fun wx => wx = w1.drewN 0) rfl ?_
    rintro wx rfl
    refine wp_region_plan [true, true, true, false, true, true, false, false, false] (.free 0 (.free 1 (.free 2 (.free 4 (.free 5 (.pool [3, 6] (.one 7 (.last 8))))))))
      (fun wx => Keep (· < w1.heap.size) w1 wx) (by kernel_rfl) (by kernel_rfl) (Keep.refl _ _).drew ?_
    refine plan_free rfl rfl (fun K hK => ?_); go_simp; refine hK _ ?_; clear hK K
    refine plan_held (.int .i64 1) rfl rfl (fun w0 h0 => by obtain ⟨q0, q1, q2, q3⟩ := SS.out w0 h0; clear h0; go_simp) (fun K hK => ?_); go_simp; refine hK _ ?_; clear hK K
    refine plan_free rfl rfl (fun K hK => ?_); go_simp; refine hK _ ?_; clear hK K
    refine plan_free rfl rfl (fun K hK => ?_); go_simp; refine hK _ ?_; clear hK K
    refine plan_held (.int .i64 n) rfl rfl (fun w0 h0 => by obtain ⟨q0, q1, q2, q3⟩ := SS.out w0 h0; clear h0; go_simp) (fun K hK => ?_); go_simp; refine hK _ ?_; clear hK K
    clear s0 s1 s2 s3
    refine plan_pool _ (fun i => 29 + i) [3, 6] [3, 6] (fun i => if i = 3 then Fact.row _ 5 (ints .u8 [x]) else Fact.row _ 5 (ints .u8 (Sha.be8 (Wr.u64 n)))) (fun _ => []) (fun _ => []) (by kernel_rfl) ⟨rfl, rfl⟩ rfl (fun wx hx => (Keep.refl _ _).drew.trans hx) ⟨?o3, ?o6⟩ ?oe
    case o3 =>
      intro vs wx hk _ K hK
      refine pool_op rfl rfl ?_
      simp only [putAll, List.filter, List.contains, List.elem, List.foldl]
      go_simp
      exact hK _ _ (pool_block (cs := ints .u8 [x]) (heap_alloc_new wx _) (by simp [ints, maxLen]) ((Keep.refl _ _).alloc _ (fun _ h => h)) hk.size)
    case o6 =>
      intro vs wx hk _ K hK
      refine pool_op rfl rfl ?_
      simp only [putAll, List.filter, List.contains, List.elem, List.foldl]
      go_simp
      refine (rnum20_8 n wx).mono ?_
      rintro e w2 ⟨rfl, h2, k2⟩
      exact hK _ _ (pool_block (cs := ints .u8 (Sha.be8 (Wr.u64 n))) h2 (by simp [ints, be8_len, maxLen]) k2 hk.size)
    case oe =>
      intro vs w2 k2 hT hD
      simp only [putAll, List.foldl, Act.put, Nat.reduceAdd]
      go_simp
      obtain ⟨⟨r3, o3⟩, r6, o6⟩ := hT
      have K2 := hid (K1.out.trans (((Keep.refl (· < w1.heap.size) w1).drew.trans k2).mono (fun b h => Nat.lt_trans h z1)))
      have G3 := hid (show Gr w1 w2 (vs 3) (ints .u8 [x]) from ⟨r3, (Keep.refl (· < w1.heap.size) w1).drew.trans k2, o3⟩)
      obtain ⟨v3, hv3⟩ : ∃ v, vs 3 = v := ⟨_, rfl⟩
      obtain ⟨v6, hv6⟩ : ∃ v, vs 6 = v := ⟨_, rfl⟩
      rw [hv3] at G3 ⊢
      rw [hv6] at r6 ⊢
      have HA := hid (G3.out.app 32 v6 _ r6.cells (ints_one _ _) (by simp [ints, be8_len]))
      clear r3 o3 r6 o6 hD hv3 hv6 k2
      refine plan_app rfl rfl (.tmp 32) (.tmp 35) 32 32 rfl _ HA.out ?_
      intro v7 w3 g7
      have G7 := hid g7
      refine ⟨g7.keep, ?_⟩
      clear g7
      refine plan_last rfl rfl (fun K hK => ?_); go_simp
      refine hK _ _ ?_
      clear hK K
      obtain ⟨s0, s1, s2, s3⟩ := SS.out w3 G7.out.keep
      clear s0 s1 s3 HA
      go_wp2_with fail
      refine (rnum20_8 f w3).mono ?_
      rintro e w4 ⟨rfl, h4, k4⟩
      have c4 : Cells w4 (fun _ => True) (.slice (some ⟨w3.heap.size, 0, none⟩) 8 8) (ints .u8 (Sha.be8 (Wr.u64 f))) := by
        have := Cells.of_block (w := w4) (p := fun _ => True) (cur := ints .u8 (Sha.be8 (Wr.u64 f))) (off := 0) (n := 8) (cap := 8) h4 trivial (by rw [ints_length, be8_len]; decide) (Nat.le_refl _) (by decide)
        rwa [List.drop_zero, List.take_of_length_le (by rw [ints_length, be8_len]; decide)] at this
      have HB := hid ((gr_num G7.out k4).app 32 _ _ c4 (ints_one _ _) (by simp [ints, be8_len]))
      have S3 := hid (SS.out w4 (gr_num G7.out k4).keep).2.2.2
      clear s2 h4 k4 c4
      go_upto_region 5 with (at_builtin; refine wpList_app rfl (.tmp 37) (.tmp 40) 32 32 rfl _ HB.out ?_; rintro v8 w5 g8)
      have s3 := (SS.out w5 g8.keep).2.2.2
      have HC := hid (g8.appStr 32 text HX.out (by have := HT.out; simp only [List.length_append, ints_length, be8_len, List.length_cons, List.length_nil] at this ⊢; omega))
      clear g8 HB
      go_wp2_with (at_builtin; refine wpList_app rfl (.tmp 42) (.tmp 44) 32 9 rfl _ HC.out ?_; rintro v9 w6 g9; have G9 := hid g9; clear g9)
      go_ret2
      have z1' := Nat.le_of_lt z1
      refine ⟨v9, rfl, ⟨?_, fun b hb => Nat.le_trans z1' (G9.out.own b hb)⟩, K1.out.trans (G9.out.keep.mono (fun b h => Nat.lt_trans h z1))⟩
      have e : ints .u8 (Wr.reqBytes 1 n f text) = ints .u8 [x] ++ ints .u8 (Sha.be8 (Wr.u64 n)) ++ ints .u8 (Sha.be8 (Wr.u64 f)) ++ ints .u8 text := by
        rw [← ints_append, ← ints_append, ← ints_append]
        simp [Wr.reqBytes, HXX.out]
      rw [e]
      exact G9.out.row
  · have t3 : (k == 1) = false := by simp; exact hk1
    have t3a : (k != 1) = true := by simp; exact hk1
    have eQ : ((bstr []).toList != []) = false := by rw [bne, eS]; rfl
    have eP : (bstr []).toList = [] := by simp [bstr, ByteArray.toList_eq]
    go_upto_region 3 with fail
    refine wp_world (fun wx => wx = w1.drewN 0) rfl ?_
    rintro wx rfl
    refine wp_region_plan [true, true, true, false, true, true, false, false, false] (.free 0 (.free 1 (.free 2 (.free 4 (.free 5 (.pool [3, 6] (.one 7 (.last 8))))))))
      (fun wx => Keep (· < w1.heap.size) w1 wx) (by kernel_rfl) (by kernel_rfl) (Keep.refl _ _).drew ?_
    refine plan_free rfl rfl (fun K hK => ?_); go_simp; refine hK _ ?_; clear hK K
    refine plan_held (.int .i64 k) rfl rfl (fun w0 h0 => by obtain ⟨q0, q1, q2, q3⟩ := SS.out w0 h0; clear h0; go_simp) (fun K hK => ?_); go_simp; refine hK _ ?_; clear hK K
    refine plan_free rfl rfl (fun K hK => ?_); go_simp; refine hK _ ?_; clear hK K
    refine plan_free rfl rfl (fun K hK => ?_); go_simp; refine hK _ ?_; clear hK K
    refine plan_held (.int .i64 n) rfl rfl (fun w0 h0 => by obtain ⟨q0, q1, q2, q3⟩ := SS.out w0 h0; clear h0; go_simp) (fun K hK => ?_); go_simp; refine hK _ ?_; clear hK K
    clear s0 s1 s2 s3
    refine plan_pool _ (fun i => 29 + i) [3, 6] [3, 6] (fun i => if i = 3 then Fact.row _ 5 (ints .u8 [x]) else Fact.row _ 5 (ints .u8 (Sha.be8 (Wr.u64 n)))) (fun _ => []) (fun _ => []) (by kernel_rfl) ⟨rfl, rfl⟩ rfl (fun wx hx => (Keep.refl _ _).drew.trans hx) ⟨?o3, ?o6⟩ ?oe
    case o3 =>
      intro vs wx hk _ K hK
      refine pool_op rfl rfl ?_
      simp only [putAll, List.filter, List.contains, List.elem, List.foldl]
      go_simp
      exact hK _ _ (pool_block (cs := ints .u8 [x]) (heap_alloc_new wx _) (by simp [ints, maxLen]) ((Keep.refl _ _).alloc _ (fun _ h => h)) hk.size)
    case o6 =>
      intro vs wx hk _ K hK
      refine pool_op rfl rfl ?_
      simp only [putAll, List.filter, List.contains, List.elem, List.foldl]
      go_simp
      refine (rnum20_8 n wx).mono ?_
      rintro e w2 ⟨rfl, h2, k2⟩
      exact hK _ _ (pool_block (cs := ints .u8 (Sha.be8 (Wr.u64 n))) h2 (by simp [ints, be8_len, maxLen]) k2 hk.size)
    case oe =>
      intro vs w2 k2 hT hD
      simp only [putAll, List.foldl, Act.put, Nat.reduceAdd]
      go_simp
      obtain ⟨⟨r3, o3⟩, r6, o6⟩ := hT
      have K2 := hid (K1.out.trans (((Keep.refl (· < w1.heap.size) w1).drew.trans k2).mono (fun b h => Nat.lt_trans h z1)))
      have G3 := hid (show Gr w1 w2 (vs 3) (ints .u8 [x]) from ⟨r3, (Keep.refl (· < w1.heap.size) w1).drew.trans k2, o3⟩)
      obtain ⟨v3, hv3⟩ : ∃ v, vs 3 = v := ⟨_, rfl⟩
      obtain ⟨v6, hv6⟩ : ∃ v, vs 6 = v := ⟨_, rfl⟩
      rw [hv3] at G3 ⊢
      rw [hv6] at r6 ⊢
      have HA := hid (G3.out.app 32 v6 _ r6.cells (ints_one _ _) (by simp [ints, be8_len]))
      clear r3 o3 r6 o6 hD hv3 hv6 k2
      refine plan_app rfl rfl (.tmp 32) (.tmp 35) 32 32 rfl _ HA.out ?_
      intro v7 w3 g7
      have G7 := hid g7
      refine ⟨g7.keep, ?_⟩
      clear g7
      refine plan_last rfl rfl (fun K hK => ?_); go_simp
      refine hK _ _ ?_
      clear hK K
      obtain ⟨s0, s1, s2, s3⟩ := SS.out w3 G7.out.keep
      clear s0 s1 s3 HA
      go_wp2_with fail
      refine (rnum20_8 f w3).mono ?_
      rintro e w4 ⟨rfl, h4, k4⟩
      have c4 : Cells w4 (fun _ => True) (.slice (some ⟨w3.heap.size, 0, none⟩) 8 8) (ints .u8 (Sha.be8 (Wr.u64 f))) := by
        have := Cells.of_block (w := w4) (p := fun _ => True) (cur := ints .u8 (Sha.be8 (Wr.u64 f))) (off := 0) (n := 8) (cap := 8) h4 trivial (by rw [ints_length, be8_len]; decide) (Nat.le_refl _) (by decide)
        rwa [List.drop_zero, List.take_of_length_le (by rw [ints_length, be8_len]; decide)] at this
      have HB := hid ((gr_num G7.out k4).app 32 _ _ c4 (ints_one _ _) (by simp [ints, be8_len]))
      have S3 := hid (SS.out w4 (gr_num G7.out k4).keep).2.2.2
      clear s2 h4 k4 c4
      go_upto_region 5 with (at_builtin; refine wpList_app rfl (.tmp 37) (.tmp 40) 32 32 rfl _ HB.out ?_; rintro v8 w5 g8)
      have s3 := (SS.out w5 g8.keep).2.2.2
      have HC := hid (g8.appStr 32 [] HX.out (by simp [ints, be8_len]))
      clear g8 HB
      go_wp2_with (at_builtin; refine wpList_app rfl (.tmp 42) (.tmp 44) 32 9 rfl _ HC.out ?_; rintro v9 w6 g9; have G9 := hid g9; clear g9)
      go_ret2
      have z1' := Nat.le_of_lt z1
      refine ⟨v9, rfl, ⟨?_, fun b hb => Nat.le_trans z1' (G9.out.own b hb)⟩, K1.out.trans (G9.out.keep.mono (fun b h => Nat.lt_trans h z1))⟩
      have e : ints .u8 (Wr.reqBytes k n f []) = ints .u8 [x] ++ ints .u8 (Sha.be8 (Wr.u64 n)) ++ ints .u8 (Sha.be8 (Wr.u64 f)) ++ ints .u8 [] := by
        rw [← ints_append, ← ints_append, ← ints_append]
        simp [Wr.reqBytes, HXX.out]
      rw [e]
      exact G9.out.row
end Go.Proofs.YtnpneippahdigaaDoor
