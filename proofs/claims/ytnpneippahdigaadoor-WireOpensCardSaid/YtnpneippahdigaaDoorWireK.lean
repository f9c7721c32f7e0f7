/-
  Step by step: 'Form', 'Signed', 'Bytes' of the reference 21; 'same' of the statements of layer 21.
-/
import Derived.Test.YtnpneippahdigaaDoorWireJ
import Derived.Test.YtnpneippahdigaaDoorWireD
import Derived.Test.YtnpneippahdigaaDoorTxt4
import Derived.Laws.Cover3
namespace Go.Proofs.YtnpneippahdigaaDoor
open Go.RowKit Go.Proofs.Mem Go.Proofs.Txt

set_option maxRecDepth 100000 in
theorem rform_walk (t s n : Int) (m : Nat) (hn : n = (m : Int)) (w : World) :
    Calls Tryd.prog 46 #[.int .i64 t, .int .i64 s, .int .i64 n] w fun e w' => e = .returned (.bool (Wr.form t s m)) ∧ w = w' := by
  obtain ⟨b, hb⟩ : ∃ b, Wr.form t s m = b := ⟨_, rfl⟩
  rw [hb]
  have hc : (b = false ∧ t < 0) ∨ (b = false ∧ 0 ≤ t ∧ 255 < t) ∨ (b = false ∧ 0 ≤ t ∧ t ≤ 255 ∧ s < 0) ∨ (b = false ∧ 0 ≤ t ∧ t ≤ 255 ∧ 0 ≤ s ∧ 1099511627776 < s) ∨ (b = false ∧ 0 ≤ t ∧ t ≤ 255 ∧ 0 ≤ s ∧ s ≤ 1099511627776 ∧ 16343 < n) ∨ (b = true ∧ 0 ≤ t ∧ t ≤ 255 ∧ 0 ≤ s ∧ s ≤ 1099511627776 ∧ n ≤ 16343) := by
    by_cases hf : 0 ≤ t ∧ t ≤ 255 ∧ 0 ≤ s ∧ s ≤ 1099511627776 ∧ m ≤ 16343
    · have h1 := (Wr.form_iff t s m).2 hf
      rw [hb] at h1
      subst h1
      simp only [Bool.true_eq_false, false_and, false_or, true_and]
      omega
    · have h1 : b = false := by
        cases b with
        | false => rfl
        | true => exact absurd ((Wr.form_iff t s m).1 hb) hf
      subst h1
      simp only [Bool.false_eq_true, false_and, or_false, true_and]
      omega
  clear hb hn
  rcases hc with ⟨rfl, hc⟩ | ⟨rfl, hc⟩ | ⟨rfl, hc⟩ | ⟨rfl, hc⟩ | ⟨rfl, hc⟩ | ⟨rfl, hc⟩
  · have t1 : decide (0 ≤ t) = false := by simp; omega
    clear hc
    go_enter Tryd.func46, Tryd.ntmps46
    go_wp2_with fail
    go_ret
    exact ⟨rfl, rfl⟩
  · have t1 : decide (0 ≤ t) = true := by simp; omega
    have t2 : decide (t ≤ 255) = false := by simp; omega
    clear hc
    go_enter Tryd.func46, Tryd.ntmps46
    go_wp2_with fail
    go_ret
    exact ⟨rfl, rfl⟩
  · have t1 : decide (0 ≤ t) = true := by simp; omega
    have t2 : decide (t ≤ 255) = true := by simp; omega
    have t3 : decide (0 ≤ s) = false := by simp; omega
    clear hc
    go_enter Tryd.func46, Tryd.ntmps46
    go_wp2_with fail
    go_ret
    exact ⟨rfl, rfl⟩
  · have t1 : decide (0 ≤ t) = true := by simp; omega
    have t2 : decide (t ≤ 255) = true := by simp; omega
    have t3 : decide (0 ≤ s) = true := by simp; omega
    have t4 : decide (s ≤ 1099511627776) = false := by simp; omega
    clear hc
    go_enter Tryd.func46, Tryd.ntmps46
    go_wp2_with fail
    go_ret
    exact ⟨rfl, rfl⟩
  · have t1 : decide (0 ≤ t) = true := by simp; omega
    have t2 : decide (t ≤ 255) = true := by simp; omega
    have t3 : decide (0 ≤ s) = true := by simp; omega
    have t4 : decide (s ≤ 1099511627776) = true := by simp; omega
    have t5 : decide (n ≤ 16343) = false := by simp; omega
    clear hc
    go_enter Tryd.func46, Tryd.ntmps46
    go_wp2_with fail
    go_ret
    exact ⟨rfl, rfl⟩
  · have t1 : decide (0 ≤ t) = true := by simp; omega
    have t2 : decide (t ≤ 255) = true := by simp; omega
    have t3 : decide (0 ≤ s) = true := by simp; omega
    have t4 : decide (s ≤ 1099511627776) = true := by simp; omega
    have t5 : decide (n ≤ 16343) = true := by simp; omega
    clear hc
    go_enter Tryd.func46, Tryd.ntmps46
    go_wp2_with fail
    go_ret
    exact ⟨rfl, rfl⟩

/-- a row of its own made by 'buildSlice'. -/
theorem row_made (w : World) (cs : List Value) (hl : cs.length ≤ 1000) : Row (w.alloc (.cells cs.toArray 5)) 5 (.slice (some ⟨w.heap.size, 0, none⟩) cs.length cs.length) cs :=
  ⟨(Nat.mul_one _).symm, .inr ⟨w.heap.size, cs.length, cs.toArray, rfl, Nat.zero_le _, heap_alloc_new w _, Nat.le_refl _, by unfold maxLen; omega, by simp, by simp⟩⟩

set_option maxRecDepth 100000 in
set_option maxHeartbeats 1000000 in
theorem rsigned_walk (t s : Int) (v : Value) (body : List Nat) (w : World) (p : Nat → Prop) (hl : body.length ≤ 1099511627776) (hv : Cells w p v (ints .u8 body)) :
    Calls Tryd.prog 48 #[.int .i64 t, .int .i64 s, v] w fun e w' => ∃ v', e = .returned v' ∧ Fresh w' w.heap.size v' (ints .u8 (Wr.signed t s body)) ∧ Keep (· < w.heap.size) w w' ∧ w.heap.size ≤ w'.heap.size := by
  have HV := hid (hv.lt.mono (q := fun b => b < w.heap.size) (fun _ h => h.1))
  clear hv
  have e8 := u8_wrap t
  obtain ⟨x, hx⟩ : ∃ x, Wr.u8 t = x := ⟨_, rfl⟩
  rw [hx] at e8
  have HX := hid hx
  clear hx
  go_enter Tryd.func48, Tryd.ntmps48
  go_wp2_with fail
  refine calls_world (fun w1 => Keep (· < w.heap.size) w w1 ∧ Row w1 5 (.slice (some ⟨w.heap.size, 0, none⟩) 1 1) (ints .u8 [x]) ∧ w.heap.size < w1.heap.size) ⟨(Keep.refl _ _).alloc _ (fun _ h => h), row_made w (ints .u8 [x]) (by simp [ints]), by simp⟩ ?_
  rintro w1 ⟨k1, r1, z1⟩
  refine (rnum20_8 s w1).mono ?_
  rintro e w2 ⟨rfl, h2, k2⟩
  have c2 : Cells w2 (fun _ => True) (.slice (some ⟨w1.heap.size, 0, none⟩) 8 8) (ints .u8 (Sha.be8 (Wr.u64 s))) := by
    have := Cells.of_block (w := w2) (p := fun _ => True) (cur := ints .u8 (Sha.be8 (Wr.u64 s))) (off := 0) (n := 8) (cap := 8) h2 trivial (by rw [ints_length, be8_len]; decide) (Nat.le_refl _) (by decide)
    rwa [List.drop_zero, List.take_of_length_le (by rw [ints_length, be8_len]; decide)] at this
  have r2 := r1.keep k2 (fun b hb => r1.lt hb)
  have K2 := hid (k1.trans (k2.mono (fun b h => Nat.lt_trans h z1)))
  have HA := hid (u8_append_at w2 32 _ _ _ _ r2 c2 (ints_one _ _) (by rw [ints_length, ints_length, be8_len]; simp))
  have z2 := Nat.lt_of_lt_of_le z1 k2.size
  clear k1 k2 r1 r2 h2 c2
  go_wp2_with (first
    | (at_builtin; refine wpList_app rfl (.tmp 9) (.tmp 11) 32 32 rfl _ HA.out ?_; rintro v3 w3 ⟨r3, k3, o3⟩; have K3 := hid (K2.out.trans (k3.mono (fun b h => ⟨by omega, by simp [Value.ownBlock]; omega⟩))); have HB := hid (u8_append_at w3 32 _ v _ _ r3 (HV.out.keep K3.out (fun _ h => h)) (ints_one _ _) (by rw [List.length_append, ints_length, ints_length, ints_length, be8_len]; simp; omega)); have O3 := hid o3; have z3 := k3.size; clear r3 k3 o3)
    | (at_builtin; refine wpList_app rfl (.tmp 12) (.tmp 13) 32 32 rfl _ HB.out ?_; rintro v4 w4 ⟨r4, k4, o4⟩; have O4 := hid (And.intro r4 (And.intro k4 o4)); clear r4 k4 o4))
  go_ret
  have own3 : ∀ k, v3.ownBlock = some k → w.heap.size ≤ k := fun k hk => by
    rcases O3.out k hk with h | h
    · have : w.heap.size = k := Option.some.inj h
      omega
    · omega
  refine ⟨v4, rfl, ⟨?_, fun k hk => ?_⟩, K3.out.trans (O4.out.2.1.mono (fun b h => ⟨by omega, fun h' => by have := own3 b h'; omega⟩)), by have := O4.out.2.1.size; omega⟩
  · have e : ints .u8 (Wr.signed t s body) = ints .u8 [x] ++ ints .u8 (Sha.be8 (Wr.u64 s)) ++ ints .u8 body := by
      rw [← ints_append, ← ints_append]
      simp [Wr.signed, HX.out]
    rw [e]
    exact O4.out.1
  · rcases O4.out.2.2 k hk with h | h
    · exact own3 k h
    · omega

/-- a row that grows while the world w2 stands. -/
structure Gr (w2 w : World) (v : Value) (cs : List Value) : Prop where
  row : Row w 5 v cs
  keep : Keep (· < w2.heap.size) w2 w
  own : ∀ k, v.ownBlock = some k → w2.heap.size ≤ k
theorem Gr.app {w2 w : World} {v : Value} {cs : List Value} (h : Gr w2 w v cs) (ty : TypeId) (u : Value) (news : List Value) {p : Nat → Prop} (hu : Cells w p u news) (h1 : ∀ x ∈ news, x.oneCell' = true) (hb : cs.length + news.length ≤ 140737488355328) :
    ∃ v' w', (Builtin.append_ #[32, 32] ty #[v, u]).run Tryd.prog w = .ok v' w' ∧ Gr w2 w' v' (cs ++ news) := by
  obtain ⟨v', w', hr, r, k, o⟩ := u8_append_at w ty v u cs news h.row hu h1 hb
  have z := h.keep.size
  refine ⟨v', w', hr, r, h.keep.trans (k.mono (fun b hb => ⟨by omega, fun h' => by have := h.own b h'; omega⟩)), fun b hb => ?_⟩
  rcases o b hb with h' | h'
  · exact h.own b h'
  · omega
theorem Gr.made (w : World) : Gr w (w.drew.alloc (.cells (ints .u8 []).toArray 5)) (.slice (some ⟨w.heap.size, 0, none⟩) 0 0) (ints .u8 []) :=
  ⟨row_made w.drew (ints .u8 []) (by simp [ints]), ((Keep.refl _ _).drew).alloc _ (fun _ h => h), fun k hk => by have : w.heap.size = k := Option.some.inj hk; omega⟩

/-- the cells of a frame of the reference. -/
def rfC (t s : Int) (tv bv : Value) : List Value := [.int .i64 t, .int .i64 s, tv, bv]

set_option maxRecDepth 100000 in
set_option maxHeartbeats 1000000 in
theorem rbytes_walk (t s : Int) (tv bv : Value) (tag body : List Nat) (w : World) (p p' : Nat → Prop) (htl : tag.length = 32) (hl : body.length ≤ 1099511627776) (htv : Cells w p tv (ints .u8 tag)) (hbv : Cells w p' bv (ints .u8 body)) :
    Calls Tryd.prog 49 #[.agg (rfC t s tv bv).toArray] w fun e w' => ∃ v', e = .returned v' ∧ Fresh w' w.heap.size v' (ints .u8 (Wr.bytes t s tag body)) ∧ Keep (· < w.heap.size) w w' ∧ w.heap.size ≤ w'.heap.size := by
  obtain ⟨ta, tn, tc, rfl⟩ := cells_form htv
  obtain ⟨ba, bn, bc, rfl⟩ := cells_form hbv
  have HT := hid (htv.lt.mono (q := fun b => b < w.heap.size) (fun _ h => h.1))
  have HB := hid (hbv.lt.mono (q := fun b => b < w.heap.size) (fun _ h => h.1))
  clear htv hbv
  have hb := heap_alloc_new w (.cells (rfC t s (.slice ta tn tc) (.slice ba bn bc)).toArray 83)
  have c0 := (cell_at hb 0).trans (show (rfC t s (.slice ta tn tc) (.slice ba bn bc))[0]? = some (.int .i64 t) from rfl)
  have c1 := (cell_at hb 1).trans (show (rfC t s (.slice ta tn tc) (.slice ba bn bc))[1]? = some (.int .i64 s) from rfl)
  have c2 := (cell_at hb 2).trans (show (rfC t s (.slice ta tn tc) (.slice ba bn bc))[2]? = some (.slice ta tn tc) from rfl)
  have c3 := (cell_at hb 3).trans (show (rfC t s (.slice ta tn tc) (.slice ba bn bc))[3]? = some (.slice ba bn bc) from rfl)
  have C2 := hid c2
  clear hb c2
  go_enter Tryd.func49, Tryd.ntmps49
  go_wp2_with fail
  refine calls_world (fun w1 => Keep (· < w.heap.size) w w1 ∧ w1.cell? ⟨w.heap.size, 2, none⟩ = some (.slice ta tn tc) ∧ w.heap.size < w1.heap.size) ⟨(Keep.refl _ _).alloc _ (fun _ h => h), C2.out, by simp⟩ ?_
  rintro w1 ⟨k1, c2, z1⟩
  refine (rsigned_walk t s (.slice ba bn bc) body w1 _ hl (HB.out.keep k1 (fun _ h => h))).mono ?_
  rintro e w2 ⟨v2, rfl, f2, k2, z2⟩
  have c2' := (k2.cell (x := ⟨w.heap.size, 2, none⟩) z1).trans c2
  have K2 := hid (k1.trans (k2.mono (fun b h => Nat.lt_trans h z1)))
  have hsl := Wr.signed_length t s body
  obtain ⟨blk, off, c, rfl, hnc, hcm, hblk, hcell⟩ := f2.cells.open_ (by omega)
  obtain ⟨n, hn⟩ : ∃ n, (Wr.signed t s body).length = n := ⟨_, rfl⟩
  rw [hn] at hnc hsl
  have HC := hid (And.intro hcell (And.intro hn hblk))
  have n9 : 9 ≤ n := by omega
  have HSL := hid hsl
  have hnl : n ≤ 1099511627785 := by omega
  rw [hn]
  have z12 : w.heap.size < w2.heap.size := by omega
  clear k1 k2 f2 c0 c1 c2 hcell hn C2 hblk hsl
  go_upto_region 2 with fail
  have n9' : (9 : Int) ≤ (n : Int) := by omega
  have c9' : (9 : Int) ≤ (c : Int) := by omega
  have c9 : 9 ≤ c := by omega
  have q9 : ¬ (9 : Int) = 0 := by omega
  refine wp_region_plan [false, true, true, false, true, true, false, true, true, false, false] (.free 1 (.free 2 (.free 4 (.free 5 (.free 7 (.free 8 (.one 0 (.one 3 (.one 6 (.one 9 (.last 10)))))))))))
    (fun wx => wx.cell? ⟨w.heap.size, 2, none⟩ = some (.slice ta tn tc)) (by kernel_rfl) (by kernel_rfl) c2' ?_
  iterate 3 (refine plan_free rfl rfl (fun K hK => ?_); go_simp; refine hK _ ?_; clear hK K)
  refine plan_held (.slice ta tn tc) rfl rfl (fun w0 h0 => by go_simp) (fun K hK => ?_); refine hK _ ?_; clear hK K
  iterate 2 (refine plan_free rfl rfl (fun K hK => ?_); go_simp; refine hK _ ?_; clear hK K)
  obtain ⟨ab, hab⟩ : ∃ ab, (if c = 9 then some (⟨blk, off, none⟩ : Addr) else some ⟨blk, off + 9, none⟩) = ab := ⟨_, rfl⟩
  rw [hab]
  have ct : Cells w2 (fun b => b < w2.heap.size) (.slice ab (n - 9) (c - 9)) (ints .u8 body) := by
    rw [← hab]
    split
    · have h0 : body = [] := List.eq_nil_of_length_eq_zero (by have := HSL.out; omega)
      rw [h0, show n - 9 = 0 by omega]
      exact ⟨_, _, _, rfl, rfl, Nat.zero_le _, by unfold maxLen; omega, fun h => absurd h (by decide)⟩
    · have := cells_sub (w := w2) (p := fun _ => True) (blk := blk) (off := off) (cs := ints .u8 (Wr.signed t s body)) trivial (fun i hi => HC.out.1 i hi) 9 (n - 9) (c - 9) (by rw [ints_length, HC.out.2.1]; omega) (by omega) (by omega)
      have e : (Wr.signed t s body).drop 9 = body := rfl
      rw [ints_drop, ints_take, e, List.take_of_length_le (by have := HSL.out; omega)] at this
      exact this.lt.mono (fun _ h => h.1)
  have ch : Cells w2 (fun b => b < w2.heap.size) (.slice (some ⟨blk, off, none⟩) 9 c) (ints .u8 (Wr.u8 t :: Sha.be8 (Wr.u64 s))) := by
    have := cells_sub (w := w2) (p := fun _ => True) (blk := blk) (off := off) (cs := ints .u8 (Wr.signed t s body)) trivial (fun i hi => HC.out.1 i hi) 0 9 c (by rw [ints_length, HC.out.2.1]; omega) (by omega) (by omega)
    have e : (Wr.signed t s body).take 9 = Wr.u8 t :: Sha.be8 (Wr.u64 s) := rfl
    rw [List.drop_zero, ints_take, e, Nat.add_zero] at this
    exact this.lt.mono (fun _ h => h.1)
  have CT := hid ct
  have CH := hid ch
  have z12' : w.heap.size ≤ w2.heap.size := Nat.le_of_lt z12
  have cT : Cells w2 (fun b => b < w2.heap.size) (.slice ta tn tc) (ints .u8 tag) := (HT.out.keep K2.out (fun _ h => h)).mono (fun _ h => Nat.lt_of_lt_of_le h z12')
  have CTG := hid cT
  clear ct ch hab cT
  refine plan_one rfl rfl (fun K hK => ?_); go_simp
  refine hK _ _ ⟨((Gr.made w2).keep.cell (x := ⟨_, 2, none⟩) z12).trans c2', ?_⟩
  clear hK K
  refine plan_world (fun w3 => Gr w2 w3 (.slice (some ⟨w2.heap.size, 0, none⟩) 0 0) (ints .u8 [])) (Gr.made w2) ?_
  intro w3 g3
  refine plan_app rfl rfl (.tmp 11) (.tmp 13) 32 32 rfl _ (g3.app _ _ _ (CH.out.keep g3.keep (fun _ h => h)) (ints_one _ _) (by simp [ints, be8_len])) ?_
  intro v4 w4 g4
  refine ⟨(g4.keep.cell (x := ⟨_, 2, none⟩) z12).trans c2', ?_⟩
  clear g3
  refine plan_app rfl rfl (.tmp 14) (.tmp 16) 32 32 rfl _ (g4.app _ _ _ (CTG.out.keep g4.keep (fun _ h => h)) (ints_one _ _) (by simp [ints, be8_len]; omega)) ?_
  intro v5 w5 g5
  refine ⟨(g5.keep.cell (x := ⟨_, 2, none⟩) z12).trans c2', ?_⟩
  clear g4
  refine plan_app rfl rfl (.tmp 17) (.tmp 19) 32 32 rfl _ (g5.app _ _ _ (CT.out.keep g5.keep (fun _ h => h)) (ints_one _ _) (by simp [ints, be8_len]; omega)) ?_
  intro v6 w6 g6
  refine ⟨(g6.keep.cell (x := ⟨_, 2, none⟩) z12).trans c2', ?_⟩
  have G6 := hid g6
  clear g5 g6
  refine plan_last rfl rfl (fun K hK => ?_); go_simp
  refine hK _ _ ?_
  clear hK K
  go_wp2_with fail
  go_ret
  have e : ints .u8 (Wr.bytes t s tag body) = ints .u8 [] ++ ints .u8 (Wr.u8 t :: Sha.be8 (Wr.u64 s)) ++ ints .u8 tag ++ ints .u8 body := by
    rw [← ints_append, ← ints_append, ← ints_append]
    simp [Wr.bytes]
  refine ⟨v6, rfl, ⟨?_, fun k hk => Nat.le_trans z12' (G6.out.own k hk)⟩, K2.out.trans (G6.out.keep.mono (fun b h => Nat.lt_of_lt_of_le h z12')), by have := G6.out.keep.size; omega⟩
  rw [e]
  exact G6.out.row
end Go.Proofs.YtnpneippahdigaaDoor
