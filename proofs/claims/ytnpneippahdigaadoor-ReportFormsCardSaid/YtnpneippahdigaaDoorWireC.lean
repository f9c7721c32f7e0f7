/-
  Step by step: 'check', 'signed' of package wire.
-/
import Derived.Test.YtnpneippahdigaaDoorWireB
import Derived.Test.YtnpneippahdigaaDoorTxt4
import Derived.Laws.Rows
namespace Go.Proofs.YtnpneippahdigaaDoor
open Go.RowKit Go.Proofs.Mem

/-- a frame's cells. -/
def frC (t s : Int) (tag : List Nat) (body : Value) : List Value := .int .i64 t :: .int .i64 s :: (ints .u8 tag ++ [body])
theorem frC_length {tag : List Nat} (h : tag.length = 32) (t s : Int) (body : Value) : (frC t s tag body).length = 35 := by simp [frC, ints_length, h]
theorem frC_0 (t s : Int) (tag : List Nat) (body : Value) : (frC t s tag body)[0]? = some (.int .i64 t) := rfl
theorem frC_1 (t s : Int) (tag : List Nat) (body : Value) : (frC t s tag body)[1]? = some (.int .i64 s) := rfl
theorem frC_34 {tag : List Nat} (h : tag.length = 32) (t s : Int) (body : Value) : (frC t s tag body)[34]? = some body := by
  unfold frC
  rw [show (34 : Nat) = 32 + 1 + 1 from rfl, List.getElem?_cons_succ, List.getElem?_cons_succ, List.getElem?_append_right (by rw [ints_length, h]; exact Nat.le_refl _), ints_length, h]
  rfl
theorem frC_tag {tag : List Nat} (h : tag.length = 32) (t s : Int) (body : Value) : ((frC t s tag body).drop 2).take 32 = ints .u8 tag := by
  have : (frC t s tag body).drop 2 = ints .u8 tag ++ [body] := rfl
  rw [this, List.take_append_of_le_length (by rw [ints_length, h]; exact Nat.le_refl _), List.take_of_length_le (by rw [ints_length, h]; exact Nat.le_refl _)]
theorem frC_one (t s : Int) (tag : List Nat) (body : Value) (hb : body.oneCell' = true) : (frC t s tag body).toArray.all (·.oneCell') = true := by
  rw [Array.all_eq_true_iff_forall_mem]
  intro v hv
  simp only [frC, List.mem_toArray, List.mem_cons, List.mem_append, List.not_mem_nil, or_false] at hv
  rcases hv with rfl | rfl | hv | rfl
  · rfl
  · rfl
  · exact ints_one _ _ v hv
  · exact hb
theorem frC_size {tag : List Nat} (h : tag.length = 32) (t s : Int) (body : Value) : (Tryd.prog.info? 49).map (·.size) = some (frC t s tag body).toArray.size := by rw [List.size_toArray, frC_length h]; kernel_rfl
/-- a frame as a value. -/
def frV (t s : Int) (tag : List Nat) (body : Value) : Value := .agg (frC t s tag body).toArray

section
variable (t s : Int) (tag : List Nat) (a : Option Addr) (n c : Nat) (w : World) (htag : tag.length = 32)
include htag

set_option maxRecDepth 100000 in
theorem check_good (ht : 0 ≤ t) (ht' : t ≤ 255) (hs : 0 ≤ s) (hs' : s ≤ 1099511627776) (hn : n ≤ 16343) :
    Calls Tryd.prog 67 #[.agg (frC t s tag (.slice a n c)).toArray] w fun e w' => e = .returned .nilIface ∧ Keep (· < w.heap.size) w w' := by
  have hb := heap_alloc_new w (.cells (frC t s tag (.slice a n c)).toArray 49)
  have c0 := (cell_at hb 0).trans (frC_0 t s tag (.slice a n c))
  have c1 := (cell_at hb 1).trans (frC_1 t s tag (.slice a n c))
  have c34 := (cell_at hb 34).trans (frC_34 htag t s (.slice a n c))
  have t1 : decide (t < 0) = false := by simp; omega
  have t2 : decide ((255 : Int) < t) = false := by simp; omega
  have t3 : decide (s < 0) = false := by simp; omega
  have t4 : decide ((1099511627776 : Int) < s) = false := by simp; omega
  have t5 : decide ((16343 : Int) < (n : Int)) = false := by simp; omega
  clear hb htag ht ht' hs hs' hn
  go_enter Tryd.func67, Tryd.ntmps67
  go_wp2_with fail
  go_ret
  exact ⟨rfl, (Keep.refl _ _).alloc _ (fun _ h => h)⟩

set_option maxRecDepth 100000 in
theorem check_bad (ev : Value) (h : Wr.form t s n = false) (hn : n ≤ 9223372036854775807) (he : w.cell? ⟨11, 0, none⟩ = some ev) (hl : 11 < w.heap.size) :
    Calls Tryd.prog 67 #[.agg (frC t s tag (.slice a n c)).toArray] w fun e w' => e = .returned ev ∧ Keep (· < w.heap.size) w w' := by
  have hb := heap_alloc_new w (.cells (frC t s tag (.slice a n c)).toArray 49)
  have c0 := (cell_at hb 0).trans (frC_0 t s tag (.slice a n c))
  have c1 := (cell_at hb 1).trans (frC_1 t s tag (.slice a n c))
  have c34 := (cell_at hb 34).trans (frC_34 htag t s (.slice a n c))
  have k0 : Keep (· < w.heap.size) w (w.alloc (.cells (frC t s tag (.slice a n c)).toArray 49)) := (Keep.refl _ _).alloc _ (fun _ h => h)
  have ce := (k0.cell (x := ⟨11, 0, none⟩) hl).trans he
  have HK := hid k0
  have hc : t < 0 ∨ (0 ≤ t ∧ 255 < t) ∨ (0 ≤ t ∧ t ≤ 255 ∧ s < 0) ∨ (0 ≤ t ∧ t ≤ 255 ∧ 0 ≤ s ∧ 1099511627776 < s) ∨ (0 ≤ t ∧ t ≤ 255 ∧ 0 ≤ s ∧ s ≤ 1099511627776 ∧ 16343 < n) := by
    by_cases hf : 0 ≤ t ∧ t ≤ 255 ∧ 0 ≤ s ∧ s ≤ 1099511627776 ∧ n ≤ 16343
    · rw [(Wr.form_iff t s n).2 hf] at h; cases h
    · omega
  clear hb htag h he hl k0
  rcases hc with hc | hc | hc | hc | hc
  · have t1 : decide (t < 0) = true := by simp; omega
    clear hc
    go_enter Tryd.func67, Tryd.ntmps67
    go_wp2_with fail
    go_ret
    exact ⟨rfl, HK.out⟩
  · have t1 : decide (t < 0) = false := by simp; omega
    have t2 : decide ((255 : Int) < t) = true := by simp; omega
    clear hc
    go_enter Tryd.func67, Tryd.ntmps67
    go_wp2_with fail
    go_ret
    exact ⟨rfl, HK.out⟩
  · have t1 : decide (t < 0) = false := by simp; omega
    have t2 : decide ((255 : Int) < t) = false := by simp; omega
    have t3 : decide (s < 0) = true := by simp; omega
    clear hc
    go_enter Tryd.func67, Tryd.ntmps67
    go_wp2_with fail
    go_ret
    exact ⟨rfl, HK.out⟩
  · have t1 : decide (t < 0) = false := by simp; omega
    have t2 : decide ((255 : Int) < t) = false := by simp; omega
    have t3 : decide (s < 0) = false := by simp; omega
    have t4 : decide ((1099511627776 : Int) < s) = true := by simp; omega
    clear hc
    go_enter Tryd.func67, Tryd.ntmps67
    go_wp2_with fail
    go_ret
    exact ⟨rfl, HK.out⟩
  · have t1 : decide (t < 0) = false := by simp; omega
    have t2 : decide ((255 : Int) < t) = false := by simp; omega
    have t3 : decide (s < 0) = false := by simp; omega
    have t4 : decide ((1099511627776 : Int) < s) = false := by simp; omega
    have t5 : decide ((16343 : Int) < (n : Int)) = true := by simp; omega
    clear hc
    go_enter Tryd.func67, Tryd.ntmps67
    go_wp2_with fail
    go_ret
    exact ⟨rfl, HK.out⟩
end

theorem u8_wrap (n : Int) : IntKind.u8.wrap n = (Wr.u8 n : Int) := by rw [IntKind.wrap_u8]; unfold Wr.u8; omega
/-- a row of one made by 'buildSlice'. -/
theorem cells_made (w : World) (T : TypeId) (p : Nat → Prop) (cs : List Value) (hp : p w.heap.size) (hl : cs.length ≤ 1000) : Cells (w.alloc (.cells cs.toArray T)) p (.slice (some ⟨w.heap.size, 0, none⟩) cs.length cs.length) cs := by
  have := Cells.of_block (w := w.alloc (.cells cs.toArray T)) (b := w.heap.size) (off := 0) (n := cs.length) (cap := cs.length) (cur := cs) (p := p) (heap_alloc_new w _) hp (by omega) (Nat.le_refl _) (by unfold maxLen; omega)
  simpa using this

set_option maxRecDepth 100000 in
set_option maxHeartbeats 1000000 in
theorem signed_walk (t s : Int) (tag : List Nat) (v : Value) (body : List Nat) (w : World) (p : Nat → Prop) (htag : tag.length = 32) (hl : body.length ≤ 1099511627776) (hv : Cells w p v (ints .u8 body)) :
    Calls Tryd.prog 69 #[.agg (frC t s tag v).toArray] w fun e w' => ∃ v', e = .returned v' ∧ Fresh w' w.heap.size v' (ints .u8 (Wr.signed t s body)) ∧ Keep (· < w.heap.size) w w' ∧ w.heap.size ≤ w'.heap.size := by
  obtain ⟨av, nv, cv, rfl⟩ := cells_form hv
  have HV := hid (hv.lt.mono (q := fun b => b < w.heap.size) (fun _ h => h.1))
  clear hv
  go_enter Tryd.func69, Tryd.ntmps69
  go_upto_region 1 with fail
  have hb := heap_alloc_new w (.cells (frC t s tag (.slice av nv cv)).toArray 49)
  refine wp_world (fun w1 => (w1.cell? ⟨w.heap.size, 0, none⟩ = some (.int .i64 t) ∧ w1.cell? ⟨w.heap.size, 1, none⟩ = some (.int .i64 s) ∧ w1.cell? ⟨w.heap.size, 34, none⟩ = some (.slice av nv cv)) ∧ Keep (· < w.heap.size) w w1 ∧ w.heap.size < w1.heap.size) ⟨⟨(cell_at hb 0).trans (frC_0 _ _ _ _), (cell_at hb 1).trans (frC_1 _ _ _ _), (cell_at hb 34).trans (frC_34 htag _ _ _)⟩, (Keep.refl _ _).alloc _ (fun _ h => h), by simp⟩ ?_
  rintro w1 ⟨S1, k1, z1⟩
  clear hb
  have H1 := hid (And.intro S1 k1)
  clear S1 k1
  have e8 := u8_wrap t
  obtain ⟨x, hx⟩ : ∃ x, Wr.u8 t = x := ⟨_, rfl⟩
  rw [hx] at e8
  have HX := hid hx
  clear hx
  refine Txt.wp_region_plan [true, true, true, false, true, true, false, true, true, false, false, false] (.free 0 (.free 1 (.free 2 (.free 4 (.free 5 (.free 7 (.free 8 (.alt (.one 3 (.one 6 (.one 9 (.one 10 (.last 11))))) (.one 6 (.one 3 (.one 9 (.one 10 (.last 11)))))))))))))
    (fun wx => wx.cell? ⟨w.heap.size, 0, none⟩ = some (.int .i64 t) ∧ wx.cell? ⟨w.heap.size, 1, none⟩ = some (.int .i64 s) ∧ wx.cell? ⟨w.heap.size, 34, none⟩ = some (.slice av nv cv)) (by kernel_rfl) (by kernel_rfl) H1.out.1 ?_
  refine Txt.plan_free rfl rfl (fun K hK => ?_); go_simp; refine hK _ ?_; clear hK K
  refine Txt.plan_held (.int .i64 t) rfl rfl (fun w0 h0 => by obtain ⟨h0, h1, h2⟩ := h0; go_simp) (fun K hK => ?_); refine hK _ ?_; clear hK K
  refine Txt.plan_free rfl rfl (fun K hK => ?_); go_simp; refine hK _ ?_; clear hK K
  refine Txt.plan_free rfl rfl (fun K hK => ?_); go_simp; refine hK _ ?_; clear hK K
  refine Txt.plan_held (.int .i64 s) rfl rfl (fun w0 h0 => by obtain ⟨h0, h1, h2⟩ := h0; go_simp) (fun K hK => ?_); refine hK _ ?_; clear hK K
  refine Txt.plan_free rfl rfl (fun K hK => ?_); go_simp; refine hK _ ?_; clear hK K
  refine Txt.plan_held (.slice av nv cv) rfl rfl (fun w0 h0 => by obtain ⟨h0, h1, h2⟩ := h0; go_simp) (fun K hK => ?_); refine hK _ ?_; clear hK K
  simp only [Act.put]
  have kx1 : Keep (· < w1.heap.size) w1 (w1.drew.alloc (.cells (ints .u8 [x]).toArray 5)) := ((Keep.refl _ _).drew).alloc _ (fun _ h => h)
  refine ⟨?o1, ?o2⟩
  case' o1 =>
    refine Txt.plan_one rfl rfl (fun K hK => ?_); go_simp
    refine hK _ _ ⟨⟨(kx1.cell (x := ⟨_, 0, none⟩) z1).trans H1.out.1.1, (kx1.cell (x := ⟨_, 1, none⟩) z1).trans H1.out.1.2.1, (kx1.cell (x := ⟨_, 34, none⟩) z1).trans H1.out.1.2.2⟩, ?_⟩
    clear hK K
    try simp only [Act.put]
    have cx1 := cells_made w1.drew 5 (fun b => w.heap.size < b) (ints .u8 [x]) z1 (by simp [ints])
    refine Txt.plan_world (fun w2 => Keep (· < w1.heap.size) w1 w2 ∧ Cells w2 (fun b => w.heap.size < b) (.slice (some ⟨w1.heap.size, 0, none⟩) 1 1) (ints .u8 [x])) ⟨kx1, cx1⟩ ?_
    rintro w2 ⟨k2, c6⟩
    refine Txt.plan_one rfl rfl (fun K hK => ?_); go_simp
    refine (num_walk s w2).mono ?_
    rintro e w3 ⟨rfl, h3, k3⟩
    have z2 := k2.size
    have k13 : Keep (· < w1.heap.size) w1 w3 := k2.trans (k3.mono (fun b h => Nat.lt_of_lt_of_le h z2))
    refine hK _ _ ⟨⟨(k13.cell (x := ⟨_, 0, none⟩) z1).trans H1.out.1.1, (k13.cell (x := ⟨_, 1, none⟩) z1).trans H1.out.1.2.1, (k13.cell (x := ⟨_, 34, none⟩) z1).trans H1.out.1.2.2⟩, ?_⟩
    clear hK K
    try simp only [Act.put]
    have d6 := (c6.lt).keep (q := fun b => b < w2.heap.size) k3 (fun b h => h.1)
    have d9 : Cells w3 (fun b => w.heap.size < b) (.slice (some ⟨w2.heap.size, 0, none⟩) 8 8) (ints .u8 (Sha.be8 (Wr.u64 s))) := by
      have := Cells.of_block (w := w3) (p := fun b => w.heap.size < b) (cur := ints .u8 (Sha.be8 (Wr.u64 s))) (off := 0) (n := 8) (cap := 8) h3 (by omega) (by rw [ints_length, be8_len]; decide) (Nat.le_refl _) (by decide)
      rwa [List.drop_zero, List.take_of_length_le (by rw [ints_length, be8_len]; decide)] at this
    have D6 := hid (d6.mono (q := fun b => w.heap.size < b) (fun b h => h.2))
    have D9 := hid d9
    have K3 := hid k13
    clear d6 d9 c6 k2 k3 h3 z2 cx1 k13 kx1
    obtain ⟨b6, hb6⟩ : ∃ b, w1.heap.size = b := ⟨_, rfl⟩
    obtain ⟨b9, hb9⟩ : ∃ b, w2.heap.size = b := ⟨_, rfl⟩
    rw [hb6] at D6 ⊢
    rw [hb9] at D9 ⊢
    clear hb6 hb9
  case' o2 =>
    refine Txt.plan_one rfl rfl (fun K hK => ?_); go_simp
    refine (num_walk s w1.drew).mono ?_
    rintro e w2 ⟨rfl, h3, k2'⟩
    have k2 : Keep (· < w1.heap.size) w1 w2 := ((Keep.refl _ w1).drew).trans k2'
    refine hK _ _ ⟨⟨(k2.cell (x := ⟨_, 0, none⟩) z1).trans H1.out.1.1, (k2.cell (x := ⟨_, 1, none⟩) z1).trans H1.out.1.2.1, (k2.cell (x := ⟨_, 34, none⟩) z1).trans H1.out.1.2.2⟩, ?_⟩
    clear hK K
    try simp only [Act.put]
    have c9 : Cells w2 (fun b => w.heap.size < b) (.slice (some ⟨w1.heap.size, 0, none⟩) 8 8) (ints .u8 (Sha.be8 (Wr.u64 s))) := by
      have := Cells.of_block (w := w2) (p := fun b => w.heap.size < b) (cur := ints .u8 (Sha.be8 (Wr.u64 s))) (off := 0) (n := 8) (cap := 8) h3 (by exact z1) (by rw [ints_length, be8_len]; decide) (Nat.le_refl _) (by decide)
      rwa [List.drop_zero, List.take_of_length_le (by rw [ints_length, be8_len]; decide)] at this
    have z2 := k2.size
    have kx2 : Keep (· < w2.heap.size) w2 (w2.alloc (.cells (ints .u8 [x]).toArray 5)) := (Keep.refl _ _).alloc _ (fun _ h => h)
    have k13 : Keep (· < w1.heap.size) w1 (w2.alloc (.cells (ints .u8 [x]).toArray 5)) := k2.trans (kx2.mono (fun b h => Nat.lt_of_lt_of_le h z2))
    refine Txt.plan_one rfl rfl (fun K hK => ?_); go_simp
    refine hK _ _ ⟨⟨(k13.cell (x := ⟨_, 0, none⟩) z1).trans H1.out.1.1, (k13.cell (x := ⟨_, 1, none⟩) z1).trans H1.out.1.2.1, (k13.cell (x := ⟨_, 34, none⟩) z1).trans H1.out.1.2.2⟩, ?_⟩
    clear hK K
    try simp only [Act.put]
    have cx2 := cells_made w2 5 (fun b => w.heap.size < b) (ints .u8 [x]) (by omega) (by simp [ints])
    refine Txt.plan_world (fun w3 => Keep (· < w1.heap.size) w1 w3 ∧ Cells w3 (fun b => w.heap.size < b) (.slice (some ⟨w2.heap.size, 0, none⟩) 1 1) (ints .u8 [x]) ∧ Cells w3 (fun b => w.heap.size < b) (.slice (some ⟨w1.heap.size, 0, none⟩) 8 8) (ints .u8 (Sha.be8 (Wr.u64 s)))) ⟨k13, cx2, (c9.lt.keep kx2 (fun b h => h.1)).mono (fun b h => h.2)⟩ ?_
    rintro w3 ⟨k13', d6, d9⟩
    have D6 := hid d6
    have D9 := hid d9
    have K3 := hid k13'
    clear d6 d9 c9 k2 k2' h3 z2 cx2 k13 k13' kx1 kx2
    obtain ⟨b6, hb6⟩ : ∃ b, w2.heap.size = b := ⟨_, rfl⟩
    obtain ⟨b9, hb9⟩ : ∃ b, w1.heap.size = b := ⟨_, rfl⟩
    rw [hb6] at D6 ⊢
    rw [hb9] at D9 ⊢
    clear hb6 hb9
  all_goals
    have z3 := K3.out.size
    have k34 : Keep (· < w3.heap.size) w3 (w3.alloc (.cells [.slice (some ⟨b6, 0, none⟩) 1 1, .slice (some ⟨b9, 0, none⟩) 8 8, .slice av nv cv].toArray 32)) := (Keep.refl _ _).alloc _ (fun _ h => h)
    have k14 := K3.out.trans (k34.mono (fun b h => Nat.lt_of_lt_of_le h z3))
    have c4 := cells_made w3 32 (fun _ => True) [.slice (some ⟨b6, 0, none⟩) 1 1, .slice (some ⟨b9, 0, none⟩) 8 8, .slice av nv cv] trivial (by simp)
    have r4 : Rws (w3.alloc (.cells [.slice (some ⟨b6, 0, none⟩) 1 1, .slice (some ⟨b9, 0, none⟩) 8 8, .slice av nv cv].toArray 32)) (fun _ => True) [.slice (some ⟨b6, 0, none⟩) 1 1, .slice (some ⟨b9, 0, none⟩) 8 8, .slice av nv cv] [[x], Sha.be8 (Wr.u64 s), body] :=
      Rws.cons ((D6.out.lt.keep k34 (fun b h => h.1)).mono (fun _ _ => trivial)) (Rws.cons ((D9.out.lt.keep k34 (fun b h => h.1)).mono (fun _ _ => trivial))
        (Rws.cons (((HV.out.keep H1.out.2 (fun b h => h)).keep k14 (fun b h => Nat.lt_trans h z1)).mono (fun _ _ => trivial)) (Rws.nil _ _)))
    refine Txt.plan_one rfl rfl (fun K hK => ?_); go_simp
    refine hK _ _ ⟨⟨(k14.cell (x := ⟨_, 0, none⟩) z1).trans H1.out.1.1, (k14.cell (x := ⟨_, 1, none⟩) z1).trans H1.out.1.2.1, (k14.cell (x := ⟨_, 34, none⟩) z1).trans H1.out.1.2.2⟩, ?_⟩
    clear hK K
    try simp only [Act.put]
    refine Txt.plan_world (fun w4 => Keep (· < w1.heap.size) w1 w4 ∧ w3.heap.size < w4.heap.size ∧ Cells w4 (fun _ => True) (.slice (some ⟨w3.heap.size, 0, none⟩) 3 3) [.slice (some ⟨b6, 0, none⟩) 1 1, .slice (some ⟨b9, 0, none⟩) 8 8, .slice av nv cv] ∧ Rws w4 (fun _ => True) [.slice (some ⟨b6, 0, none⟩) 1 1, .slice (some ⟨b9, 0, none⟩) 8 8, .slice av nv cv] [[x], Sha.be8 (Wr.u64 s), body]) ⟨k14, by simp, c4, r4⟩ ?_
    rintro w4 ⟨k4, z4, c4', r4'⟩
    have R4 := hid (And.intro c4' r4')
    have K4 := hid k4
    clear k34 k14 c4 r4 c4' r4' D6 D9 K3 k4
    refine Txt.plan_one rfl rfl (fun K hK => ?_); go_simp
    refine (concat_walk _ _ _ w4 _ _ (by simp [total, be8_len]; omega) R4.out.1 R4.out.2).mono ?_
    rintro e w5 ⟨v5, rfl, f5, k5, z5⟩
    have k15 : Keep (· < w1.heap.size) w1 w5 := K4.out.trans (k5.mono (fun b h => by omega))
    refine hK _ _ ⟨⟨(k15.cell (x := ⟨_, 0, none⟩) z1).trans H1.out.1.1, (k15.cell (x := ⟨_, 1, none⟩) z1).trans H1.out.1.2.1, (k15.cell (x := ⟨_, 34, none⟩) z1).trans H1.out.1.2.2⟩, ?_⟩
    clear hK K
    try simp only [Act.put]
    have F5 := hid (And.intro (f5.mono (C := w.heap.size) (by omega)) (H1.out.2.trans (k15.mono (fun b h => Nat.lt_trans h z1))))
    clear f5 k5 k15 R4 K4
    refine Txt.plan_last rfl rfl (fun K hK => ?_); go_simp
    refine hK _ _ ?_
    clear hK K
    go_wp2_with fail
    go_ret
    refine ⟨v5, rfl, ?_, F5.out.2, by omega⟩
    have e : Wr.signed t s body = [[x], Sha.be8 (Wr.u64 s), body].flatten := by simp [Wr.signed, HX.out]
    rw [e]
    exact F5.out.1
end Go.Proofs.YtnpneippahdigaaDoor
