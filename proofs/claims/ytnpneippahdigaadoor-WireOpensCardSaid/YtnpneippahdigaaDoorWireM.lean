/-
  Step by step: 'Read' of the reference 21. (Printed by tools/read_gen.py.)
-/
import Derived.Test.YtnpneippahdigaaDoorWireK
namespace Go.Proofs.YtnpneippahdigaaDoor
open Go.RowKit Go.Proofs.Mem Go.Proofs.Txt

theorem rlay_frame : structLay Tryd.prog 83 = some (rfC 0 0 (.slice none 0 0) (.slice none 0 0), [(0, 1), (1, 1), (2, 1), (3, 1)]) := by kernel_rfl
theorem rbuild_frame (t s : Int) (ta ba : Option Addr) (tn tc bn bc : Nat) (w : World) : (Instr.build 83 #[(0, .int .i64 t), (1, .int .i64 s), (2, .slice ta tn tc), (3, .slice ba bn bc)]).run Tryd.prog w = .ok (.agg (rfC t s (.slice ta tn tc) (.slice ba bn bc)).toArray) w := by
  refine run_build w _ _ _ ?_
  rw [built_struct rlay_frame]
  rfl
theorem rfr_size (t s : Int) (a b : Value) : (Tryd.prog.info? 83).map (·.size) = some (rfC t s a b).toArray.size := by
  rw [List.size_toArray]
  kernel_rfl
theorem rfr_one (t s : Int) (ta ba : Option Addr) (tn tc bn bc : Nat) : (rfC t s (.slice ta tn tc) (.slice ba bn bc)).toArray.all (·.oneCell') = true := by simp [rfC, Value.oneCell']

theorem Gr.made2 {w1 w : World} (k : Keep (· < w1.heap.size) w1 w) : Gr w1 (w.alloc (.cells (ints .u8 []).toArray 5)) (.slice (some ⟨w.heap.size, 0, none⟩) 0 0) (ints .u8 []) :=
  ⟨row_made w (ints .u8 []) (by simp [ints]), k.alloc _ (fun _ h => Nat.lt_of_lt_of_le h k.size), fun b hb => by
    have e : w.heap.size = b := Option.some.inj hb
    have := k.size
    omega⟩
/-- two rows that grow while the world w1 stands. -/
structure Two (w1 w : World) (u : Value) (cs : List Value) (v : Value) (ds : List Value) : Prop where
  l : Gr w1 w u cs
  r : Gr w1 w v ds
  ne : ∀ k, u.ownBlock = some k → v.ownBlock ≠ some k
theorem Two.swap {w1 w : World} {u : Value} {cs : List Value} {v : Value} {ds : List Value} (h : Two w1 w u cs v ds) : Two w1 w v ds u cs := ⟨h.r, h.l, fun k hv hu => h.ne k hu hv⟩
theorem Gr.addR {w1 w : World} {u : Value} {cs : List Value} (h : Gr w1 w u cs) : Two w1 (w.alloc (.cells (ints .u8 []).toArray 5)) u cs (.slice (some ⟨w.heap.size, 0, none⟩) 0 0) (ints .u8 []) :=
  ⟨⟨h.row.keep (q := fun b => b < w.heap.size) ((Keep.refl _ _).alloc _ (fun _ h => h)) (fun b hb => h.row.lt hb), h.keep.alloc _ (fun _ hb => Nat.lt_of_lt_of_le hb h.keep.size), h.own⟩, Gr.made2 h.keep, fun k hu hv => by
    have e : w.heap.size = k := Option.some.inj hv
    have := h.row.lt hu
    omega⟩
theorem Gr.addL {w1 w : World} {u : Value} {cs : List Value} (h : Gr w1 w u cs) : Two w1 (w.alloc (.cells (ints .u8 []).toArray 5)) (.slice (some ⟨w.heap.size, 0, none⟩) 0 0) (ints .u8 []) u cs := h.addR.swap
theorem Two.appL {w1 w : World} {u : Value} {cs : List Value} {v : Value} {ds : List Value} (h : Two w1 w u cs v ds) (ty : TypeId) (x : Value) (news : List Value) {p : Nat → Prop} (hx : Cells w p x news) (h1 : ∀ x ∈ news, x.oneCell' = true) (hb : cs.length + news.length ≤ 140737488355328) :
    ∃ u' w', (Builtin.append_ #[32, 32] ty #[u, x]).run Tryd.prog w = .ok u' w' ∧ Two w1 w' u' (cs ++ news) v ds := by
  obtain ⟨v', w', hr, r, k, o⟩ := u8_append_at w ty u x cs news h.l.row hx h1 hb
  have z := h.l.keep.size
  have kk : Keep (· < w1.heap.size) w1 w' := h.l.keep.trans (k.mono (fun b hb => ⟨by omega, fun h' => by have := h.l.own b h'; omega⟩))
  refine ⟨v', w', hr, ⟨r, kk, fun b hb => ?_⟩, ⟨h.r.row.keep k (fun b hb => ⟨h.r.row.lt hb, fun h' => h.ne b h' hb⟩), kk, h.r.own⟩, fun b hb hv => ?_⟩
  · rcases o b hb with h' | h'
    · exact h.l.own b h'
    · omega
  · rcases o b hb with h' | h'
    · exact h.ne b h' hv
    · have := h.r.row.lt hv; omega
theorem Two.appR {w1 w : World} {u : Value} {cs : List Value} {v : Value} {ds : List Value} (h : Two w1 w u cs v ds) (ty : TypeId) (x : Value) (news : List Value) {p : Nat → Prop} (hx : Cells w p x news) (h1 : ∀ x ∈ news, x.oneCell' = true) (hb : ds.length + news.length ≤ 140737488355328) :
    ∃ v' w', (Builtin.append_ #[32, 32] ty #[v, x]).run Tryd.prog w = .ok v' w' ∧ Two w1 w' u cs v' (ds ++ news) := by
  obtain ⟨v', w', hr, ht⟩ := h.swap.appL ty x news hx h1 hb
  exact ⟨v', w', hr, ht.swap⟩

set_option maxRecDepth 100000 in
set_option maxHeartbeats 1000000 in
theorem rread_bad (v : Value) (b : List Nat) (w : World) (p : Nat → Prop) (hx : ∀ x ∈ b, x < 256) (hv : Cells w p v (ints .u8 b)) (hf : Wr.isFrame b = false) :
    Calls Tryd.prog 43 #[v] w fun e w' => e = .returned (.tuple #[.agg (rfC 0 0 (.slice none 0 0) (.slice none 0 0)).toArray, .bool false]) ∧ Keep (· < w.heap.size) w w' := by
  have HX := hid hx
  have hle := hv.len_le
  rw [ints_length] at hle
  have HV := hid (hv.lt.mono (q := fun b => b < w.heap.size) (fun _ h => h.1))
  have hcase : b.length < 41 ∨ (41 ≤ b.length ∧ 16384 < b.length) ∨ (41 ≤ b.length ∧ b.length ≤ 16384 ∧ 1099511627776 < Wr.seqOf b) := by
    by_cases h : 41 ≤ b.length ∧ b.length ≤ 16384 ∧ Wr.seqOf b ≤ 1099511627776
    · rw [(Wr.isFrame_iff b).2 h] at hf; cases hf
    · omega
  clear hx hv hf
  have hi := rfr_size 0 0 (.slice none 0 0) (.slice none 0 0)
  have h1 := rfr_one 0 0 none none 0 0 0 0
  rcases hcase with hc | hc | ⟨hc1, hc2, hc3⟩
  case' inl =>
    obtain ⟨a, n, c, rfl⟩ := cells_form HV.out
    have hn : n = b.length := by
      obtain ⟨_, _, _, e, h1, _⟩ := HV.out
      injection e with _ e2 _
      rw [e2, h1, ints_length]
    have t1 : decide ((n : Int) < 41) = true := by simp; omega
    clear hn hc
    go_enter Tryd.func43, Tryd.ntmps43
    go_upto_region 2 with fail
  case' inr.inl =>
    obtain ⟨a, n, c, rfl⟩ := cells_form HV.out
    have hn : n = b.length := by
      obtain ⟨_, _, _, e, h1, _⟩ := HV.out
      injection e with _ e2 _
      rw [e2, h1, ints_length]
    have t1 : decide ((n : Int) < 41) = false := by simp; omega
    have t2 : decide ((16384 : Int) < (n : Int)) = true := by simp; omega
    clear hn hc
    go_enter Tryd.func43, Tryd.ntmps43
    go_upto_region 2 with fail
  case' inr.inr =>
    obtain ⟨blk, off, c, rfl, hnc, hcm, hblk, hcell⟩ := HV.out.open_ (by omega)
    obtain ⟨n, hn⟩ : ∃ n, b.length = n := ⟨_, rfl⟩
    have HC := hid (And.intro hcell hn)
    rw [hn] at hc1 hc2 hnc HV ⊢
    have t1 : decide ((n : Int) < 41) = false := by simp; omega
    have t2 : decide ((16384 : Int) < (n : Int)) = false := by simp; omega
    have c1 : (9 : Int) ≤ (c : Int) := by omega
    have hsl := Wr.seqOf_lt b HX.out
    obtain ⟨z, hz⟩ : ∃ z, Wr.seqOf b = z := ⟨_, rfl⟩
    rw [hz] at hc3 hsl
    have t3 : decide ((1099511627776 : Int) < (z : Int)) = true := by simp; omega
    have HZ := hid hz
    clear hn hcell hz hc3
    go_enter Tryd.func43, Tryd.ntmps43
    have ofc : ∀ w0 : World, Keep (· < w.heap.size) w w0 → Calls Tryd.prog 78 #[.slice (some ⟨blk, off + 1, none⟩) 8 (c - 1)] w0 fun e w' => e = .returned (.int .u64 (z : Int)) ∧ w0 = w' := fun w0 k0 => by
      have h8 := cells_sub (w := w0) (p := fun _ => True) (blk := blk) (off := off) (cs := ints .u8 b) trivial (fun i hi => (k0.cell (x := ⟨blk, off + i, none⟩) hblk).trans (HC.out.1 i hi)) 1 8 (c - 1) (by rw [ints_length, HC.out.2]; omega) (by omega) (by omega)
      rw [ints_drop, ints_take] at h8
      have := rnum21_walk _ _ w0 _ (fun x hx => HX.out x (List.mem_of_mem_drop (List.mem_of_mem_take hx))) h8
      rw [← HZ.out]
      exact this
    have OF := hid ofc
    clear ofc
    go_wp2_with fail
    refine (OF.out _ ((Keep.refl _ _).alloc _ (fun _ h => h))).mono ?_
    rintro e w1 ⟨rfl, rfl⟩
    go_upto_region 2 with fail
  all_goals
    refine wp_world (fun w1 => Keep (· < w.heap.size) w w1 ∧ w1.heap[w.heap.size]? = some (.cells (rfC 0 0 (.slice none 0 0) (.slice none 0 0)).toArray 83 (0, 0))) ⟨(Keep.refl _ _).alloc _ (fun _ h => h), heap_alloc_new w _⟩ ?_
    rintro w1 ⟨k1, R1⟩
    have H1 := hid (And.intro k1 R1)
    clear k1 R1
    go_wp2_with (refine wpList_store_row rfl 83 (.tmp 2) (.tmp 18) rfl w.heap.size (rfC 0 0 (.slice none 0 0) (.slice none 0 0)).toArray rfl rfl 83 _ H1.out.2 hi rfl h1 ?_)
    refine bodyPost_ret (v := .tuple #[.agg (rfC 0 0 (.slice none 0 0) (.slice none 0 0)).toArray, .bool false]) (results_cell_row_tmp rfl _ _ w.heap.size 83 _ (0, 0) _ rfl (heap_setRow H1.out.2 _) Tryd.underlying83 rfl hi _ rfl) rfl ?_
    exact ⟨rfl, H1.out.1.setRow _ (Nat.lt_irrefl _)⟩

set_option maxRecDepth 100000 in
set_option maxHeartbeats 8000000 in
theorem rread_good (v : Value) (b : List Nat) (w : World) (p : Nat → Prop) (hx : ∀ x ∈ b, x < 256) (hv : Cells w p v (ints .u8 b)) (hf : Wr.isFrame b = true) :
    Calls Tryd.prog 43 #[v] w fun e w' => ∃ tv bv, e = .returned (.tuple #[.agg (rfC (b.getD 0 0 : Nat) (Wr.seqOf b : Nat) tv bv).toArray, .bool true]) ∧ Cells w' (fun k => w.heap.size < k) tv (ints .u8 ((b.drop 9).take 32)) ∧ Cells w' (fun k => w.heap.size < k) bv (ints .u8 (b.drop 41)) ∧ Keep (· < w.heap.size) w w' := by
  obtain ⟨hc1, hc2, hc3⟩ := (Wr.isFrame_iff b).1 hf
  have HX := hid hx
  have HV := hid (hv.lt.mono (q := fun b => b < w.heap.size) (fun _ h => h.1))
  clear hx hv hf
  obtain ⟨blk, off, c, rfl, hnc, hcm, hblk, hcell⟩ := HV.out.open_ (by omega)
  obtain ⟨n, hn⟩ : ∃ n, b.length = n := ⟨_, rfl⟩
  obtain ⟨sq, hsq⟩ : ∃ sq, Wr.seqOf b = sq := ⟨_, rfl⟩
  obtain ⟨x0, hx0⟩ : ∃ x, b.getD 0 0 = x := ⟨_, rfl⟩
  obtain ⟨tag, htag⟩ : ∃ t, (b.drop 9).take 32 = t := ⟨_, rfl⟩
  have htl : tag.length = 32 := by rw [← htag, List.length_take, List.length_drop]; omega
  have HTL := hid htl
  have c00 : w.cell? ⟨blk, off, none⟩ = some (.int .u8 (x0 : Int)) := by
    have := hcell 0 (by rw [ints_length]; omega)
    rwa [ints_get _ _ _ (by omega), hx0, Nat.add_zero] at this
  have HC := hid (And.intro hcell (And.intro hn (And.intro hsq (And.intro hx0 htag))))
  rw [hn] at hc1 hc2 hnc HV ⊢
  rw [hsq] at hc3 ⊢
  rw [hx0, htag]
  have t1 : decide ((n : Int) < 41) = false := by simp; omega
  have t2 : decide ((16384 : Int) < (n : Int)) = false := by simp; omega
  have t3 : decide ((1099511627776 : Int) < (sq : Int)) = false := by simp; omega
  have hx256 : x0 < 256 := by rw [← hx0, List.getD_eq_getElem?_getD, List.getElem?_eq_getElem (by omega)]; exact HX.out _ (List.getElem_mem _)
  have ew : IntKind.i64.wrap (x0 : Int) = (x0 : Int) := IntWalk.i64_in _ (by omega)
  have ew2 : IntKind.i64.wrap (sq : Int) = (sq : Int) := IntWalk.i64_in _ (by omega)
  have n0 : 0 < n := by omega
  have q1 : ¬ c = 1 := by omega
  have q9 : ¬ c = 9 := by omega
  have c1 : (9 : Int) ≤ (c : Int) := by omega
  have c2 : (41 : Int) ≤ (c : Int) := by omega
  have c3 : (41 : Int) ≤ (n : Int) := by omega
  have OF := hid (show ∀ w0 : World, Keep (· < w.heap.size) w w0 → Calls Tryd.prog 78 #[.slice (some ⟨blk, off + 1, none⟩) 8 (c - 1)] w0 fun e w' => e = .returned (.int .u64 (sq : Int)) ∧ w0 = w' from fun w0 k0 => by
    have h8 := cells_sub (w := w0) (p := fun _ => True) (blk := blk) (off := off) (cs := ints .u8 b) trivial (fun i hi => (k0.cell (x := ⟨blk, off + i, none⟩) hblk).trans (HC.out.1 i hi)) 1 8 (c - 1) (by rw [ints_length, HC.out.2.1]; omega) (by omega) (by omega)
    rw [ints_drop, ints_take] at h8
    have := rnum21_walk _ _ w0 _ (fun x hx => HX.out x (List.mem_of_mem_drop (List.mem_of_mem_take hx))) h8
    have e3 : Drw.num8 ((b.drop 1).take 8) = sq := HC.out.2.2.1
    rw [e3] at this
    exact this)
  clear hn hcell hsq hx0 htag htl
  go_enter Tryd.func43, Tryd.ntmps43
  go_wp2_with fail
  refine (OF.out _ ((Keep.refl _ _).alloc _ (fun _ h => h))).mono ?_
  rintro e w1 ⟨rfl, rfl⟩
  go_upto_region 3 with fail
  refine wp_world (fun w1 => Keep (· < w.heap.size) w w1 ∧ w1.heap[w.heap.size]? = some (.cells (rfC 0 0 (.slice none 0 0) (.slice none 0 0)).toArray 83 (0, 0)) ∧ w.heap.size < w1.heap.size) ⟨(Keep.refl _ _).alloc _ (fun _ h => h), heap_alloc_new w _, by simp⟩ ?_
  rintro w1 ⟨k1, R1, z1⟩
  have H1 := hid (And.intro k1 R1)
  have c0 := (k1.cell (x := ⟨blk, off, none⟩) hblk).trans c00
  have hblk1 := Nat.lt_trans hblk z1
  have KZ := hid (show Keep (· < w1.heap.size) w1 w1.drew from (Keep.refl _ _).drew)
  have NUM := hid (show ∀ w0 : World, Keep (· < w1.heap.size) w1 w0 → Calls Tryd.prog 78 #[.slice (some ⟨blk, off + 1, none⟩) 8 (c - 1)] w0 fun e w' => e = .returned (.int .u64 (sq : Int)) ∧ w0 = w' from fun w0 k0 => OF.out w0 (H1.out.1.trans (k0.mono (fun b h => Nat.lt_trans h z1))))
  have CT := hid (show Cells w1 (fun b => b < w1.heap.size) (.slice (some ⟨blk, off + 9, none⟩) 32 (c - 9)) (ints .u8 tag) by
    have := cells_sub (w := w1) (p := fun b => b < w1.heap.size) (blk := blk) (off := off) (cs := ints .u8 b) hblk1 (fun i hi => (H1.out.1.cell (x := ⟨blk, off + i, none⟩) hblk).trans (HC.out.1 i hi)) 9 32 (c - 9) (by rw [ints_length, HC.out.2.1]; omega) (by omega) (by omega)
    rwa [ints_drop, ints_take, HC.out.2.2.2.2] at this)
  clear k1 R1 c00 OF

  refine wp_region_plan [true, true, true, true, true, true, false, true, false, true, true, false, false, true, true, false, true, false, false] (.free 0 (.free 1 (.free 2 (.free 3 (.free 4 (.free 5 (.free 9 (.free 10 (.free 13 (.free 14 (.alt (.one 6 (.free 7 (.alt (.one 8 (.alt (.one 11 (.one 12 (.one 15 (.free 16 (.one 17 (.last 18)))))) (.one 12 (.one 11 (.one 15 (.free 16 (.one 17 (.last 18)))))))) (.one 12 (.one 8 (.one 11 (.one 15 (.free 16 (.one 17 (.last 18)))))))))) (.alt (.one 8 (.alt (.one 6 (.free 7 (.alt (.one 11 (.one 12 (.one 15 (.free 16 (.one 17 (.last 18)))))) (.one 12 (.one 11 (.one 15 (.free 16 (.one 17 (.last 18))))))))) (.one 12 (.one 6 (.free 7 (.one 11 (.one 15 (.free 16 (.one 17 (.last 18)))))))))) (.one 12 (.alt (.one 6 (.free 7 (.one 8 (.one 11 (.one 15 (.free 16 (.one 17 (.last 18)))))))) (.one 8 (.one 6 (.free 7 (.one 11 (.one 15 (.free 16 (.one 17 (.last 18))))))))))))))))))))))
    (fun wx => wx.cell? ⟨blk, off, none⟩ = some (.int .u8 (x0 : Int))) (by kernel_rfl) (by kernel_rfl) c0 ?_
  iterate 2 (refine plan_free rfl rfl (fun K hK => ?_); go_simp; refine hK _ ?_; clear hK K)
  refine plan_held (.int .u8 (x0 : Int)) rfl rfl (fun w0 h0 => by go_simp) (fun K hK => ?_); refine hK _ ?_; clear hK K
  iterate 7 (refine plan_free rfl rfl (fun K hK => ?_); go_simp; refine hK _ ?_; clear hK K)
  obtain ⟨ab, hab⟩ : ∃ ab, (if c = 41 then some (⟨blk, off, none⟩ : Addr) else some ⟨blk, off + 41, none⟩) = ab := ⟨_, rfl⟩
  rw [hab]
  have CB := hid (show Cells w1 (fun b => b < w1.heap.size) (.slice ab (n - 41) (c - 41)) (ints .u8 (b.drop 41)) by
    rw [← hab]
    split
    · have h0 : b.drop 41 = [] := List.drop_eq_nil_of_le (by rw [HC.out.2.1]; omega)
      rw [h0, show n - 41 = 0 by omega]
      exact ⟨_, _, _, rfl, rfl, Nat.zero_le _, by unfold maxLen; omega, fun h => absurd h (by decide)⟩
    · have := cells_sub (w := w1) (p := fun b => b < w1.heap.size) (blk := blk) (off := off) (cs := ints .u8 b) hblk1 (fun i hi => (H1.out.1.cell (x := ⟨blk, off + i, none⟩) hblk).trans (HC.out.1 i hi)) 41 (n - 41) (c - 41) (by rw [ints_length, HC.out.2.1]; omega) (by omega) (by omega)
      rwa [ints_drop, ints_take, List.take_of_length_le (by rw [List.length_drop, HC.out.2.1]; exact Nat.le_refl _)] at this)
  have hBl := hid (show (b.drop 41).length ≤ 16384 by rw [List.length_drop]; have := HC.out.2.1; omega)
  have C0 := hid c0
  clear hab c0 t1 t2 t3
  have kk := KZ.out
  try simp only [Act.put]
  refine ⟨?_, ?_⟩
  · skip
    refine plan_one rfl rfl (fun K hK => ?_); go_simp
    refine (NUM.out _ kk).mono ?_
    rintro e wn1 ⟨rfl, rfl⟩
    refine hK _ _ ⟨(kk.cell (x := ⟨blk, off, none⟩) hblk1).trans C0.out, ?_⟩
    clear hK K
    refine plan_free rfl rfl (fun K hK => ?_); go_simp; refine hK _ ?_; clear hK K
    refine ⟨?_, ?_⟩
    · skip
      refine plan_one rfl rfl (fun K hK => ?_); go_simp
      refine hK _ _ ⟨((kk.alloc _ (fun _ h => Nat.lt_of_lt_of_le h kk.size)).cell (x := ⟨blk, off, none⟩) hblk1).trans C0.out, ?_⟩
      clear hK K
      try simp only [Act.put]
      refine plan_world (fun wx => Gr w1 wx (.slice (some ⟨w1.heap.size, 0, none⟩) 0 0) (ints .u8 [])) (Gr.made2 kk) ?_
      intro w12 g
      have kk := g.keep
      refine ⟨?_, ?_⟩
      · skip
        refine plan_app rfl rfl (.tmp 27) (.tmp 29) 32 32 rfl _ (g.app _ _ _ (CT.out.keep kk (fun _ h => h)) (ints_one _ _) (by rw [ints_length, ints_length, List.length_nil]; have := HTL.out; have := hBl.out; omega)) ?_
        clear g
        intro v103 w13 g
        have kk := g.keep
        refine ⟨(kk.cell (x := ⟨blk, off, none⟩) hblk1).trans C0.out, ?_⟩
        try simp only [Act.put]
        refine plan_one rfl rfl (fun K hK => ?_); go_simp
        refine hK _ _ ⟨((kk.alloc _ (fun _ h => Nat.lt_of_lt_of_le h kk.size)).cell (x := ⟨blk, off, none⟩) hblk1).trans C0.out, ?_⟩
        clear hK K
        try simp only [Act.put]
        refine plan_world (fun wx => Two w1 wx (v103) (ints .u8 [] ++ ints .u8 tag) (.slice (some ⟨w13.heap.size, 0, none⟩) 0 0) (ints .u8 [])) g.addR ?_
        clear g
        intro w14 g
        have kk := g.l.keep
        refine plan_app rfl rfl (.tmp 31) (.tmp 33) 32 32 rfl _ (g.appR _ _ _ (CB.out.keep kk (fun _ h => h)) (ints_one _ _) (by rw [ints_length, ints_length, List.length_nil]; have := HTL.out; have := hBl.out; omega)) ?_
        clear g
        intro v105 w15 g
        have kk := g.l.keep
        refine ⟨(kk.cell (x := ⟨blk, off, none⟩) hblk1).trans C0.out, ?_⟩
        try simp only [Act.put]
        obtain ⟨ua, un, uc, rfl⟩ := cells_form g.l.row.cells
        obtain ⟨va, vn, vc, rfl⟩ := cells_form g.r.row.cells
        refine plan_build rfl rfl 83 [(0, .tmp 22), (1, .tmp 26), (2, .tmp 30), (3, .tmp 34)] rfl (.agg (rfC (x0 : Int) (sq : Int) (.slice ua un uc) (.slice va vn vc)).toArray) (fun w0 => rbuild_frame _ _ _ _ _ _ _ _ w0) (fun K hK => ?_); refine hK _ ?_; clear hK K
        have R2 := (kk.block _ z1).trans H1.out.2
        have hi := rfr_size (x0 : Int) (sq : Int) (.slice ua un uc) (.slice va vn vc)
        refine plan_one rfl rfl (fun K hK => ?_)
        refine wp_store_row 83 (.tmp 2) (.tmp 35) rfl w.heap.size (rfC (x0 : Int) (sq : Int) (.slice ua un uc) (.slice va vn vc)).toArray rfl rfl 83 _ R2 hi rfl (rfr_one _ _ _ _ _ _ _ _) ?_
        have k3 : Keep (fun b => b ≠ w.heap.size) w15 (w15.setRow w.heap.size (rfC (x0 : Int) (sq : Int) (.slice ua un uc) (.slice va vn vc)).toArray) := (Keep.refl _ _).setRow _ (fun h => h rfl)
        have R3 := heap_setRow R2 (rfC (x0 : Int) (sq : Int) (.slice ua un uc) (.slice va vn vc)).toArray
        refine hK _ _ ⟨(k3.cell (x := ⟨blk, off, none⟩) (Nat.ne_of_lt hblk)).trans ((kk.cell (x := ⟨blk, off, none⟩) hblk1).trans C0.out), ?_⟩
        clear hK K
        have GG := hid (And.intro g (And.intro kk (And.intro R3 k3)))
        clear g kk R2 R3 k3
        refine plan_last rfl rfl (fun K hK => ?_); go_simp
        refine hK _ _ ?_
        clear hK K
        go_wp2_with fail
        refine bodyPost_ret (v := .tuple #[.agg (rfC (x0 : Int) (sq : Int) (.slice ua un uc) (.slice va vn vc)).toArray, .bool true]) (results_cell_row_tmp rfl _ _ w.heap.size 83 _ (0, 0) _ rfl GG.out.2.2.1 Tryd.underlying83 rfl hi _ rfl) rfl ?_
        exact ⟨_, _, rfl, (GG.out.1.l.row.cells.mono (q := fun k => w.heap.size < k) (fun k hk => Nat.lt_of_lt_of_le z1 (GG.out.1.l.own k hk))).keep GG.out.2.2.2 (fun k h => Nat.ne_of_gt h), (GG.out.1.r.row.cells.mono (q := fun k => w.heap.size < k) (fun k hk => Nat.lt_of_lt_of_le z1 (GG.out.1.r.own k hk))).keep GG.out.2.2.2 (fun k h => Nat.ne_of_gt h), (H1.out.1.trans (GG.out.2.1.mono (fun b h => Nat.lt_trans h z1))).trans (GG.out.2.2.2.mono (fun b h => Nat.ne_of_lt h))⟩
      · skip
        refine plan_one rfl rfl (fun K hK => ?_); go_simp
        refine hK _ _ ⟨((kk.alloc _ (fun _ h => Nat.lt_of_lt_of_le h kk.size)).cell (x := ⟨blk, off, none⟩) hblk1).trans C0.out, ?_⟩
        clear hK K
        try simp only [Act.put]
        refine plan_world (fun wx => Two w1 wx (.slice (some ⟨w1.heap.size, 0, none⟩) 0 0) (ints .u8 []) (.slice (some ⟨w12.heap.size, 0, none⟩) 0 0) (ints .u8 [])) g.addR ?_
        clear g
        intro w16 g
        have kk := g.l.keep
        refine plan_app rfl rfl (.tmp 27) (.tmp 29) 32 32 rfl _ (g.appL _ _ _ (CT.out.keep kk (fun _ h => h)) (ints_one _ _) (by rw [ints_length, ints_length, List.length_nil]; have := HTL.out; have := hBl.out; omega)) ?_
        clear g
        intro v107 w17 g
        have kk := g.l.keep
        refine ⟨(kk.cell (x := ⟨blk, off, none⟩) hblk1).trans C0.out, ?_⟩
        try simp only [Act.put]
        refine plan_app rfl rfl (.tmp 31) (.tmp 33) 32 32 rfl _ (g.appR _ _ _ (CB.out.keep kk (fun _ h => h)) (ints_one _ _) (by rw [ints_length, ints_length, List.length_nil]; have := HTL.out; have := hBl.out; omega)) ?_
        clear g
        intro v108 w18 g
        have kk := g.l.keep
        refine ⟨(kk.cell (x := ⟨blk, off, none⟩) hblk1).trans C0.out, ?_⟩
        try simp only [Act.put]
        obtain ⟨ua, un, uc, rfl⟩ := cells_form g.l.row.cells
        obtain ⟨va, vn, vc, rfl⟩ := cells_form g.r.row.cells
        refine plan_build rfl rfl 83 [(0, .tmp 22), (1, .tmp 26), (2, .tmp 30), (3, .tmp 34)] rfl (.agg (rfC (x0 : Int) (sq : Int) (.slice ua un uc) (.slice va vn vc)).toArray) (fun w0 => rbuild_frame _ _ _ _ _ _ _ _ w0) (fun K hK => ?_); refine hK _ ?_; clear hK K
        have R2 := (kk.block _ z1).trans H1.out.2
        have hi := rfr_size (x0 : Int) (sq : Int) (.slice ua un uc) (.slice va vn vc)
        refine plan_one rfl rfl (fun K hK => ?_)
        refine wp_store_row 83 (.tmp 2) (.tmp 35) rfl w.heap.size (rfC (x0 : Int) (sq : Int) (.slice ua un uc) (.slice va vn vc)).toArray rfl rfl 83 _ R2 hi rfl (rfr_one _ _ _ _ _ _ _ _) ?_
        have k3 : Keep (fun b => b ≠ w.heap.size) w18 (w18.setRow w.heap.size (rfC (x0 : Int) (sq : Int) (.slice ua un uc) (.slice va vn vc)).toArray) := (Keep.refl _ _).setRow _ (fun h => h rfl)
        have R3 := heap_setRow R2 (rfC (x0 : Int) (sq : Int) (.slice ua un uc) (.slice va vn vc)).toArray
        refine hK _ _ ⟨(k3.cell (x := ⟨blk, off, none⟩) (Nat.ne_of_lt hblk)).trans ((kk.cell (x := ⟨blk, off, none⟩) hblk1).trans C0.out), ?_⟩
        clear hK K
        have GG := hid (And.intro g (And.intro kk (And.intro R3 k3)))
        clear g kk R2 R3 k3
        refine plan_last rfl rfl (fun K hK => ?_); go_simp
        refine hK _ _ ?_
        clear hK K
        go_wp2_with fail
        refine bodyPost_ret (v := .tuple #[.agg (rfC (x0 : Int) (sq : Int) (.slice ua un uc) (.slice va vn vc)).toArray, .bool true]) (results_cell_row_tmp rfl _ _ w.heap.size 83 _ (0, 0) _ rfl GG.out.2.2.1 Tryd.underlying83 rfl hi _ rfl) rfl ?_
        exact ⟨_, _, rfl, (GG.out.1.l.row.cells.mono (q := fun k => w.heap.size < k) (fun k hk => Nat.lt_of_lt_of_le z1 (GG.out.1.l.own k hk))).keep GG.out.2.2.2 (fun k h => Nat.ne_of_gt h), (GG.out.1.r.row.cells.mono (q := fun k => w.heap.size < k) (fun k hk => Nat.lt_of_lt_of_le z1 (GG.out.1.r.own k hk))).keep GG.out.2.2.2 (fun k h => Nat.ne_of_gt h), (H1.out.1.trans (GG.out.2.1.mono (fun b h => Nat.lt_trans h z1))).trans (GG.out.2.2.2.mono (fun b h => Nat.ne_of_lt h))⟩
    · skip
      refine plan_one rfl rfl (fun K hK => ?_); go_simp
      refine hK _ _ ⟨((kk.alloc _ (fun _ h => Nat.lt_of_lt_of_le h kk.size)).cell (x := ⟨blk, off, none⟩) hblk1).trans C0.out, ?_⟩
      clear hK K
      try simp only [Act.put]
      refine plan_world (fun wx => Gr w1 wx (.slice (some ⟨w1.heap.size, 0, none⟩) 0 0) (ints .u8 [])) (Gr.made2 kk) ?_
      intro w19 g
      have kk := g.keep
      refine plan_one rfl rfl (fun K hK => ?_); go_simp
      refine hK _ _ ⟨((kk.alloc _ (fun _ h => Nat.lt_of_lt_of_le h kk.size)).cell (x := ⟨blk, off, none⟩) hblk1).trans C0.out, ?_⟩
      clear hK K
      try simp only [Act.put]
      refine plan_world (fun wx => Two w1 wx (.slice (some ⟨w19.heap.size, 0, none⟩) 0 0) (ints .u8 []) (.slice (some ⟨w1.heap.size, 0, none⟩) 0 0) (ints .u8 [])) g.addL ?_
      clear g
      intro w20 g
      have kk := g.l.keep
      refine plan_app rfl rfl (.tmp 27) (.tmp 29) 32 32 rfl _ (g.appL _ _ _ (CT.out.keep kk (fun _ h => h)) (ints_one _ _) (by rw [ints_length, ints_length, List.length_nil]; have := HTL.out; have := hBl.out; omega)) ?_
      clear g
      intro v111 w21 g
      have kk := g.l.keep
      refine ⟨(kk.cell (x := ⟨blk, off, none⟩) hblk1).trans C0.out, ?_⟩
      try simp only [Act.put]
      refine plan_app rfl rfl (.tmp 31) (.tmp 33) 32 32 rfl _ (g.appR _ _ _ (CB.out.keep kk (fun _ h => h)) (ints_one _ _) (by rw [ints_length, ints_length, List.length_nil]; have := HTL.out; have := hBl.out; omega)) ?_
      clear g
      intro v112 w22 g
      have kk := g.l.keep
      refine ⟨(kk.cell (x := ⟨blk, off, none⟩) hblk1).trans C0.out, ?_⟩
      try simp only [Act.put]
      obtain ⟨ua, un, uc, rfl⟩ := cells_form g.l.row.cells
      obtain ⟨va, vn, vc, rfl⟩ := cells_form g.r.row.cells
      refine plan_build rfl rfl 83 [(0, .tmp 22), (1, .tmp 26), (2, .tmp 30), (3, .tmp 34)] rfl (.agg (rfC (x0 : Int) (sq : Int) (.slice ua un uc) (.slice va vn vc)).toArray) (fun w0 => rbuild_frame _ _ _ _ _ _ _ _ w0) (fun K hK => ?_); refine hK _ ?_; clear hK K
      have R2 := (kk.block _ z1).trans H1.out.2
      have hi := rfr_size (x0 : Int) (sq : Int) (.slice ua un uc) (.slice va vn vc)
      refine plan_one rfl rfl (fun K hK => ?_)
      refine wp_store_row 83 (.tmp 2) (.tmp 35) rfl w.heap.size (rfC (x0 : Int) (sq : Int) (.slice ua un uc) (.slice va vn vc)).toArray rfl rfl 83 _ R2 hi rfl (rfr_one _ _ _ _ _ _ _ _) ?_
      have k3 : Keep (fun b => b ≠ w.heap.size) w22 (w22.setRow w.heap.size (rfC (x0 : Int) (sq : Int) (.slice ua un uc) (.slice va vn vc)).toArray) := (Keep.refl _ _).setRow _ (fun h => h rfl)
      have R3 := heap_setRow R2 (rfC (x0 : Int) (sq : Int) (.slice ua un uc) (.slice va vn vc)).toArray
      refine hK _ _ ⟨(k3.cell (x := ⟨blk, off, none⟩) (Nat.ne_of_lt hblk)).trans ((kk.cell (x := ⟨blk, off, none⟩) hblk1).trans C0.out), ?_⟩
      clear hK K
      have GG := hid (And.intro g (And.intro kk (And.intro R3 k3)))
      clear g kk R2 R3 k3
      refine plan_last rfl rfl (fun K hK => ?_); go_simp
      refine hK _ _ ?_
      clear hK K
      go_wp2_with fail
      refine bodyPost_ret (v := .tuple #[.agg (rfC (x0 : Int) (sq : Int) (.slice ua un uc) (.slice va vn vc)).toArray, .bool true]) (results_cell_row_tmp rfl _ _ w.heap.size 83 _ (0, 0) _ rfl GG.out.2.2.1 Tryd.underlying83 rfl hi _ rfl) rfl ?_
      exact ⟨_, _, rfl, (GG.out.1.l.row.cells.mono (q := fun k => w.heap.size < k) (fun k hk => Nat.lt_of_lt_of_le z1 (GG.out.1.l.own k hk))).keep GG.out.2.2.2 (fun k h => Nat.ne_of_gt h), (GG.out.1.r.row.cells.mono (q := fun k => w.heap.size < k) (fun k hk => Nat.lt_of_lt_of_le z1 (GG.out.1.r.own k hk))).keep GG.out.2.2.2 (fun k h => Nat.ne_of_gt h), (H1.out.1.trans (GG.out.2.1.mono (fun b h => Nat.lt_trans h z1))).trans (GG.out.2.2.2.mono (fun b h => Nat.ne_of_lt h))⟩
  · skip
    refine ⟨?_, ?_⟩
    · skip
      refine plan_one rfl rfl (fun K hK => ?_); go_simp
      refine hK _ _ ⟨((kk.alloc _ (fun _ h => Nat.lt_of_lt_of_le h kk.size)).cell (x := ⟨blk, off, none⟩) hblk1).trans C0.out, ?_⟩
      clear hK K
      try simp only [Act.put]
      refine plan_world (fun wx => Gr w1 wx (.slice (some ⟨w1.heap.size, 0, none⟩) 0 0) (ints .u8 [])) (Gr.made2 kk) ?_
      intro w23 g
      have kk := g.keep
      refine ⟨?_, ?_⟩
      · skip
        refine plan_one rfl rfl (fun K hK => ?_); go_simp
        refine (NUM.out _ kk).mono ?_
        rintro e wn14 ⟨rfl, rfl⟩
        refine hK _ _ ⟨(kk.cell (x := ⟨blk, off, none⟩) hblk1).trans C0.out, ?_⟩
        clear hK K
        refine plan_free rfl rfl (fun K hK => ?_); go_simp; refine hK _ ?_; clear hK K
        refine ⟨?_, ?_⟩
        · skip
          refine plan_app rfl rfl (.tmp 27) (.tmp 29) 32 32 rfl _ (g.app _ _ _ (CT.out.keep kk (fun _ h => h)) (ints_one _ _) (by rw [ints_length, ints_length, List.length_nil]; have := HTL.out; have := hBl.out; omega)) ?_
          clear g
          intro v115 w25 g
          have kk := g.keep
          refine ⟨(kk.cell (x := ⟨blk, off, none⟩) hblk1).trans C0.out, ?_⟩
          try simp only [Act.put]
          refine plan_one rfl rfl (fun K hK => ?_); go_simp
          refine hK _ _ ⟨((kk.alloc _ (fun _ h => Nat.lt_of_lt_of_le h kk.size)).cell (x := ⟨blk, off, none⟩) hblk1).trans C0.out, ?_⟩
          clear hK K
          try simp only [Act.put]
          refine plan_world (fun wx => Two w1 wx (v115) (ints .u8 [] ++ ints .u8 tag) (.slice (some ⟨w25.heap.size, 0, none⟩) 0 0) (ints .u8 [])) g.addR ?_
          clear g
          intro w26 g
          have kk := g.l.keep
          refine plan_app rfl rfl (.tmp 31) (.tmp 33) 32 32 rfl _ (g.appR _ _ _ (CB.out.keep kk (fun _ h => h)) (ints_one _ _) (by rw [ints_length, ints_length, List.length_nil]; have := HTL.out; have := hBl.out; omega)) ?_
          clear g
          intro v117 w27 g
          have kk := g.l.keep
          refine ⟨(kk.cell (x := ⟨blk, off, none⟩) hblk1).trans C0.out, ?_⟩
          try simp only [Act.put]
          obtain ⟨ua, un, uc, rfl⟩ := cells_form g.l.row.cells
          obtain ⟨va, vn, vc, rfl⟩ := cells_form g.r.row.cells
          refine plan_build rfl rfl 83 [(0, .tmp 22), (1, .tmp 26), (2, .tmp 30), (3, .tmp 34)] rfl (.agg (rfC (x0 : Int) (sq : Int) (.slice ua un uc) (.slice va vn vc)).toArray) (fun w0 => rbuild_frame _ _ _ _ _ _ _ _ w0) (fun K hK => ?_); refine hK _ ?_; clear hK K
          have R2 := (kk.block _ z1).trans H1.out.2
          have hi := rfr_size (x0 : Int) (sq : Int) (.slice ua un uc) (.slice va vn vc)
          refine plan_one rfl rfl (fun K hK => ?_)
          refine wp_store_row 83 (.tmp 2) (.tmp 35) rfl w.heap.size (rfC (x0 : Int) (sq : Int) (.slice ua un uc) (.slice va vn vc)).toArray rfl rfl 83 _ R2 hi rfl (rfr_one _ _ _ _ _ _ _ _) ?_
          have k3 : Keep (fun b => b ≠ w.heap.size) w27 (w27.setRow w.heap.size (rfC (x0 : Int) (sq : Int) (.slice ua un uc) (.slice va vn vc)).toArray) := (Keep.refl _ _).setRow _ (fun h => h rfl)
          have R3 := heap_setRow R2 (rfC (x0 : Int) (sq : Int) (.slice ua un uc) (.slice va vn vc)).toArray
          refine hK _ _ ⟨(k3.cell (x := ⟨blk, off, none⟩) (Nat.ne_of_lt hblk)).trans ((kk.cell (x := ⟨blk, off, none⟩) hblk1).trans C0.out), ?_⟩
          clear hK K
          have GG := hid (And.intro g (And.intro kk (And.intro R3 k3)))
          clear g kk R2 R3 k3
          refine plan_last rfl rfl (fun K hK => ?_); go_simp
          refine hK _ _ ?_
          clear hK K
          go_wp2_with fail
          refine bodyPost_ret (v := .tuple #[.agg (rfC (x0 : Int) (sq : Int) (.slice ua un uc) (.slice va vn vc)).toArray, .bool true]) (results_cell_row_tmp rfl _ _ w.heap.size 83 _ (0, 0) _ rfl GG.out.2.2.1 Tryd.underlying83 rfl hi _ rfl) rfl ?_
          exact ⟨_, _, rfl, (GG.out.1.l.row.cells.mono (q := fun k => w.heap.size < k) (fun k hk => Nat.lt_of_lt_of_le z1 (GG.out.1.l.own k hk))).keep GG.out.2.2.2 (fun k h => Nat.ne_of_gt h), (GG.out.1.r.row.cells.mono (q := fun k => w.heap.size < k) (fun k hk => Nat.lt_of_lt_of_le z1 (GG.out.1.r.own k hk))).keep GG.out.2.2.2 (fun k h => Nat.ne_of_gt h), (H1.out.1.trans (GG.out.2.1.mono (fun b h => Nat.lt_trans h z1))).trans (GG.out.2.2.2.mono (fun b h => Nat.ne_of_lt h))⟩
        · skip
          refine plan_one rfl rfl (fun K hK => ?_); go_simp
          refine hK _ _ ⟨((kk.alloc _ (fun _ h => Nat.lt_of_lt_of_le h kk.size)).cell (x := ⟨blk, off, none⟩) hblk1).trans C0.out, ?_⟩
          clear hK K
          try simp only [Act.put]
          refine plan_world (fun wx => Two w1 wx (.slice (some ⟨w1.heap.size, 0, none⟩) 0 0) (ints .u8 []) (.slice (some ⟨w23.heap.size, 0, none⟩) 0 0) (ints .u8 [])) g.addR ?_
          clear g
          intro w28 g
          have kk := g.l.keep
          refine plan_app rfl rfl (.tmp 27) (.tmp 29) 32 32 rfl _ (g.appL _ _ _ (CT.out.keep kk (fun _ h => h)) (ints_one _ _) (by rw [ints_length, ints_length, List.length_nil]; have := HTL.out; have := hBl.out; omega)) ?_
          clear g
          intro v119 w29 g
          have kk := g.l.keep
          refine ⟨(kk.cell (x := ⟨blk, off, none⟩) hblk1).trans C0.out, ?_⟩
          try simp only [Act.put]
          refine plan_app rfl rfl (.tmp 31) (.tmp 33) 32 32 rfl _ (g.appR _ _ _ (CB.out.keep kk (fun _ h => h)) (ints_one _ _) (by rw [ints_length, ints_length, List.length_nil]; have := HTL.out; have := hBl.out; omega)) ?_
          clear g
          intro v120 w30 g
          have kk := g.l.keep
          refine ⟨(kk.cell (x := ⟨blk, off, none⟩) hblk1).trans C0.out, ?_⟩
          try simp only [Act.put]
          obtain ⟨ua, un, uc, rfl⟩ := cells_form g.l.row.cells
          obtain ⟨va, vn, vc, rfl⟩ := cells_form g.r.row.cells
          refine plan_build rfl rfl 83 [(0, .tmp 22), (1, .tmp 26), (2, .tmp 30), (3, .tmp 34)] rfl (.agg (rfC (x0 : Int) (sq : Int) (.slice ua un uc) (.slice va vn vc)).toArray) (fun w0 => rbuild_frame _ _ _ _ _ _ _ _ w0) (fun K hK => ?_); refine hK _ ?_; clear hK K
          have R2 := (kk.block _ z1).trans H1.out.2
          have hi := rfr_size (x0 : Int) (sq : Int) (.slice ua un uc) (.slice va vn vc)
          refine plan_one rfl rfl (fun K hK => ?_)
          refine wp_store_row 83 (.tmp 2) (.tmp 35) rfl w.heap.size (rfC (x0 : Int) (sq : Int) (.slice ua un uc) (.slice va vn vc)).toArray rfl rfl 83 _ R2 hi rfl (rfr_one _ _ _ _ _ _ _ _) ?_
          have k3 : Keep (fun b => b ≠ w.heap.size) w30 (w30.setRow w.heap.size (rfC (x0 : Int) (sq : Int) (.slice ua un uc) (.slice va vn vc)).toArray) := (Keep.refl _ _).setRow _ (fun h => h rfl)
          have R3 := heap_setRow R2 (rfC (x0 : Int) (sq : Int) (.slice ua un uc) (.slice va vn vc)).toArray
          refine hK _ _ ⟨(k3.cell (x := ⟨blk, off, none⟩) (Nat.ne_of_lt hblk)).trans ((kk.cell (x := ⟨blk, off, none⟩) hblk1).trans C0.out), ?_⟩
          clear hK K
          have GG := hid (And.intro g (And.intro kk (And.intro R3 k3)))
          clear g kk R2 R3 k3
          refine plan_last rfl rfl (fun K hK => ?_); go_simp
          refine hK _ _ ?_
          clear hK K
          go_wp2_with fail
          refine bodyPost_ret (v := .tuple #[.agg (rfC (x0 : Int) (sq : Int) (.slice ua un uc) (.slice va vn vc)).toArray, .bool true]) (results_cell_row_tmp rfl _ _ w.heap.size 83 _ (0, 0) _ rfl GG.out.2.2.1 Tryd.underlying83 rfl hi _ rfl) rfl ?_
          exact ⟨_, _, rfl, (GG.out.1.l.row.cells.mono (q := fun k => w.heap.size < k) (fun k hk => Nat.lt_of_lt_of_le z1 (GG.out.1.l.own k hk))).keep GG.out.2.2.2 (fun k h => Nat.ne_of_gt h), (GG.out.1.r.row.cells.mono (q := fun k => w.heap.size < k) (fun k hk => Nat.lt_of_lt_of_le z1 (GG.out.1.r.own k hk))).keep GG.out.2.2.2 (fun k h => Nat.ne_of_gt h), (H1.out.1.trans (GG.out.2.1.mono (fun b h => Nat.lt_trans h z1))).trans (GG.out.2.2.2.mono (fun b h => Nat.ne_of_lt h))⟩
      · skip
        refine plan_one rfl rfl (fun K hK => ?_); go_simp
        refine hK _ _ ⟨((kk.alloc _ (fun _ h => Nat.lt_of_lt_of_le h kk.size)).cell (x := ⟨blk, off, none⟩) hblk1).trans C0.out, ?_⟩
        clear hK K
        try simp only [Act.put]
        refine plan_world (fun wx => Two w1 wx (.slice (some ⟨w1.heap.size, 0, none⟩) 0 0) (ints .u8 []) (.slice (some ⟨w23.heap.size, 0, none⟩) 0 0) (ints .u8 [])) g.addR ?_
        clear g
        intro w31 g
        have kk := g.l.keep
        refine plan_one rfl rfl (fun K hK => ?_); go_simp
        refine (NUM.out _ kk).mono ?_
        rintro e wn22 ⟨rfl, rfl⟩
        refine hK _ _ ⟨(kk.cell (x := ⟨blk, off, none⟩) hblk1).trans C0.out, ?_⟩
        clear hK K
        refine plan_free rfl rfl (fun K hK => ?_); go_simp; refine hK _ ?_; clear hK K
        refine plan_app rfl rfl (.tmp 27) (.tmp 29) 32 32 rfl _ (g.appL _ _ _ (CT.out.keep kk (fun _ h => h)) (ints_one _ _) (by rw [ints_length, ints_length, List.length_nil]; have := HTL.out; have := hBl.out; omega)) ?_
        clear g
        intro v123 w33 g
        have kk := g.l.keep
        refine ⟨(kk.cell (x := ⟨blk, off, none⟩) hblk1).trans C0.out, ?_⟩
        try simp only [Act.put]
        refine plan_app rfl rfl (.tmp 31) (.tmp 33) 32 32 rfl _ (g.appR _ _ _ (CB.out.keep kk (fun _ h => h)) (ints_one _ _) (by rw [ints_length, ints_length, List.length_nil]; have := HTL.out; have := hBl.out; omega)) ?_
        clear g
        intro v124 w34 g
        have kk := g.l.keep
        refine ⟨(kk.cell (x := ⟨blk, off, none⟩) hblk1).trans C0.out, ?_⟩
        try simp only [Act.put]
        obtain ⟨ua, un, uc, rfl⟩ := cells_form g.l.row.cells
        obtain ⟨va, vn, vc, rfl⟩ := cells_form g.r.row.cells
        refine plan_build rfl rfl 83 [(0, .tmp 22), (1, .tmp 26), (2, .tmp 30), (3, .tmp 34)] rfl (.agg (rfC (x0 : Int) (sq : Int) (.slice ua un uc) (.slice va vn vc)).toArray) (fun w0 => rbuild_frame _ _ _ _ _ _ _ _ w0) (fun K hK => ?_); refine hK _ ?_; clear hK K
        have R2 := (kk.block _ z1).trans H1.out.2
        have hi := rfr_size (x0 : Int) (sq : Int) (.slice ua un uc) (.slice va vn vc)
        refine plan_one rfl rfl (fun K hK => ?_)
        refine wp_store_row 83 (.tmp 2) (.tmp 35) rfl w.heap.size (rfC (x0 : Int) (sq : Int) (.slice ua un uc) (.slice va vn vc)).toArray rfl rfl 83 _ R2 hi rfl (rfr_one _ _ _ _ _ _ _ _) ?_
        have k3 : Keep (fun b => b ≠ w.heap.size) w34 (w34.setRow w.heap.size (rfC (x0 : Int) (sq : Int) (.slice ua un uc) (.slice va vn vc)).toArray) := (Keep.refl _ _).setRow _ (fun h => h rfl)
        have R3 := heap_setRow R2 (rfC (x0 : Int) (sq : Int) (.slice ua un uc) (.slice va vn vc)).toArray
        refine hK _ _ ⟨(k3.cell (x := ⟨blk, off, none⟩) (Nat.ne_of_lt hblk)).trans ((kk.cell (x := ⟨blk, off, none⟩) hblk1).trans C0.out), ?_⟩
        clear hK K
        have GG := hid (And.intro g (And.intro kk (And.intro R3 k3)))
        clear g kk R2 R3 k3
        refine plan_last rfl rfl (fun K hK => ?_); go_simp
        refine hK _ _ ?_
        clear hK K
        go_wp2_with fail
        refine bodyPost_ret (v := .tuple #[.agg (rfC (x0 : Int) (sq : Int) (.slice ua un uc) (.slice va vn vc)).toArray, .bool true]) (results_cell_row_tmp rfl _ _ w.heap.size 83 _ (0, 0) _ rfl GG.out.2.2.1 Tryd.underlying83 rfl hi _ rfl) rfl ?_
        exact ⟨_, _, rfl, (GG.out.1.l.row.cells.mono (q := fun k => w.heap.size < k) (fun k hk => Nat.lt_of_lt_of_le z1 (GG.out.1.l.own k hk))).keep GG.out.2.2.2 (fun k h => Nat.ne_of_gt h), (GG.out.1.r.row.cells.mono (q := fun k => w.heap.size < k) (fun k hk => Nat.lt_of_lt_of_le z1 (GG.out.1.r.own k hk))).keep GG.out.2.2.2 (fun k h => Nat.ne_of_gt h), (H1.out.1.trans (GG.out.2.1.mono (fun b h => Nat.lt_trans h z1))).trans (GG.out.2.2.2.mono (fun b h => Nat.ne_of_lt h))⟩
    · skip
      refine plan_one rfl rfl (fun K hK => ?_); go_simp
      refine hK _ _ ⟨((kk.alloc _ (fun _ h => Nat.lt_of_lt_of_le h kk.size)).cell (x := ⟨blk, off, none⟩) hblk1).trans C0.out, ?_⟩
      clear hK K
      try simp only [Act.put]
      refine plan_world (fun wx => Gr w1 wx (.slice (some ⟨w1.heap.size, 0, none⟩) 0 0) (ints .u8 [])) (Gr.made2 kk) ?_
      intro w35 g
      have kk := g.keep
      refine ⟨?_, ?_⟩
      · skip
        refine plan_one rfl rfl (fun K hK => ?_); go_simp
        refine (NUM.out _ kk).mono ?_
        rintro e wn26 ⟨rfl, rfl⟩
        refine hK _ _ ⟨(kk.cell (x := ⟨blk, off, none⟩) hblk1).trans C0.out, ?_⟩
        clear hK K
        refine plan_free rfl rfl (fun K hK => ?_); go_simp; refine hK _ ?_; clear hK K
        refine plan_one rfl rfl (fun K hK => ?_); go_simp
        refine hK _ _ ⟨((kk.alloc _ (fun _ h => Nat.lt_of_lt_of_le h kk.size)).cell (x := ⟨blk, off, none⟩) hblk1).trans C0.out, ?_⟩
        clear hK K
        try simp only [Act.put]
        refine plan_world (fun wx => Two w1 wx (.slice (some ⟨w35.heap.size, 0, none⟩) 0 0) (ints .u8 []) (.slice (some ⟨w1.heap.size, 0, none⟩) 0 0) (ints .u8 [])) g.addL ?_
        clear g
        intro w37 g
        have kk := g.l.keep
        refine plan_app rfl rfl (.tmp 27) (.tmp 29) 32 32 rfl _ (g.appL _ _ _ (CT.out.keep kk (fun _ h => h)) (ints_one _ _) (by rw [ints_length, ints_length, List.length_nil]; have := HTL.out; have := hBl.out; omega)) ?_
        clear g
        intro v128 w38 g
        have kk := g.l.keep
        refine ⟨(kk.cell (x := ⟨blk, off, none⟩) hblk1).trans C0.out, ?_⟩
        try simp only [Act.put]
        refine plan_app rfl rfl (.tmp 31) (.tmp 33) 32 32 rfl _ (g.appR _ _ _ (CB.out.keep kk (fun _ h => h)) (ints_one _ _) (by rw [ints_length, ints_length, List.length_nil]; have := HTL.out; have := hBl.out; omega)) ?_
        clear g
        intro v129 w39 g
        have kk := g.l.keep
        refine ⟨(kk.cell (x := ⟨blk, off, none⟩) hblk1).trans C0.out, ?_⟩
        try simp only [Act.put]
        obtain ⟨ua, un, uc, rfl⟩ := cells_form g.l.row.cells
        obtain ⟨va, vn, vc, rfl⟩ := cells_form g.r.row.cells
        refine plan_build rfl rfl 83 [(0, .tmp 22), (1, .tmp 26), (2, .tmp 30), (3, .tmp 34)] rfl (.agg (rfC (x0 : Int) (sq : Int) (.slice ua un uc) (.slice va vn vc)).toArray) (fun w0 => rbuild_frame _ _ _ _ _ _ _ _ w0) (fun K hK => ?_); refine hK _ ?_; clear hK K
        have R2 := (kk.block _ z1).trans H1.out.2
        have hi := rfr_size (x0 : Int) (sq : Int) (.slice ua un uc) (.slice va vn vc)
        refine plan_one rfl rfl (fun K hK => ?_)
        refine wp_store_row 83 (.tmp 2) (.tmp 35) rfl w.heap.size (rfC (x0 : Int) (sq : Int) (.slice ua un uc) (.slice va vn vc)).toArray rfl rfl 83 _ R2 hi rfl (rfr_one _ _ _ _ _ _ _ _) ?_
        have k3 : Keep (fun b => b ≠ w.heap.size) w39 (w39.setRow w.heap.size (rfC (x0 : Int) (sq : Int) (.slice ua un uc) (.slice va vn vc)).toArray) := (Keep.refl _ _).setRow _ (fun h => h rfl)
        have R3 := heap_setRow R2 (rfC (x0 : Int) (sq : Int) (.slice ua un uc) (.slice va vn vc)).toArray
        refine hK _ _ ⟨(k3.cell (x := ⟨blk, off, none⟩) (Nat.ne_of_lt hblk)).trans ((kk.cell (x := ⟨blk, off, none⟩) hblk1).trans C0.out), ?_⟩
        clear hK K
        have GG := hid (And.intro g (And.intro kk (And.intro R3 k3)))
        clear g kk R2 R3 k3
        refine plan_last rfl rfl (fun K hK => ?_); go_simp
        refine hK _ _ ?_
        clear hK K
        go_wp2_with fail
        refine bodyPost_ret (v := .tuple #[.agg (rfC (x0 : Int) (sq : Int) (.slice ua un uc) (.slice va vn vc)).toArray, .bool true]) (results_cell_row_tmp rfl _ _ w.heap.size 83 _ (0, 0) _ rfl GG.out.2.2.1 Tryd.underlying83 rfl hi _ rfl) rfl ?_
        exact ⟨_, _, rfl, (GG.out.1.l.row.cells.mono (q := fun k => w.heap.size < k) (fun k hk => Nat.lt_of_lt_of_le z1 (GG.out.1.l.own k hk))).keep GG.out.2.2.2 (fun k h => Nat.ne_of_gt h), (GG.out.1.r.row.cells.mono (q := fun k => w.heap.size < k) (fun k hk => Nat.lt_of_lt_of_le z1 (GG.out.1.r.own k hk))).keep GG.out.2.2.2 (fun k h => Nat.ne_of_gt h), (H1.out.1.trans (GG.out.2.1.mono (fun b h => Nat.lt_trans h z1))).trans (GG.out.2.2.2.mono (fun b h => Nat.ne_of_lt h))⟩
      · skip
        refine plan_one rfl rfl (fun K hK => ?_); go_simp
        refine hK _ _ ⟨((kk.alloc _ (fun _ h => Nat.lt_of_lt_of_le h kk.size)).cell (x := ⟨blk, off, none⟩) hblk1).trans C0.out, ?_⟩
        clear hK K
        try simp only [Act.put]
        refine plan_world (fun wx => Two w1 wx (.slice (some ⟨w35.heap.size, 0, none⟩) 0 0) (ints .u8 []) (.slice (some ⟨w1.heap.size, 0, none⟩) 0 0) (ints .u8 [])) g.addL ?_
        clear g
        intro w40 g
        have kk := g.l.keep
        refine plan_one rfl rfl (fun K hK => ?_); go_simp
        refine (NUM.out _ kk).mono ?_
        rintro e wn31 ⟨rfl, rfl⟩
        refine hK _ _ ⟨(kk.cell (x := ⟨blk, off, none⟩) hblk1).trans C0.out, ?_⟩
        clear hK K
        refine plan_free rfl rfl (fun K hK => ?_); go_simp; refine hK _ ?_; clear hK K
        refine plan_app rfl rfl (.tmp 27) (.tmp 29) 32 32 rfl _ (g.appL _ _ _ (CT.out.keep kk (fun _ h => h)) (ints_one _ _) (by rw [ints_length, ints_length, List.length_nil]; have := HTL.out; have := hBl.out; omega)) ?_
        clear g
        intro v132 w42 g
        have kk := g.l.keep
        refine ⟨(kk.cell (x := ⟨blk, off, none⟩) hblk1).trans C0.out, ?_⟩
        try simp only [Act.put]
        refine plan_app rfl rfl (.tmp 31) (.tmp 33) 32 32 rfl _ (g.appR _ _ _ (CB.out.keep kk (fun _ h => h)) (ints_one _ _) (by rw [ints_length, ints_length, List.length_nil]; have := HTL.out; have := hBl.out; omega)) ?_
        clear g
        intro v133 w43 g
        have kk := g.l.keep
        refine ⟨(kk.cell (x := ⟨blk, off, none⟩) hblk1).trans C0.out, ?_⟩
        try simp only [Act.put]
        obtain ⟨ua, un, uc, rfl⟩ := cells_form g.l.row.cells
        obtain ⟨va, vn, vc, rfl⟩ := cells_form g.r.row.cells
        refine plan_build rfl rfl 83 [(0, .tmp 22), (1, .tmp 26), (2, .tmp 30), (3, .tmp 34)] rfl (.agg (rfC (x0 : Int) (sq : Int) (.slice ua un uc) (.slice va vn vc)).toArray) (fun w0 => rbuild_frame _ _ _ _ _ _ _ _ w0) (fun K hK => ?_); refine hK _ ?_; clear hK K
        have R2 := (kk.block _ z1).trans H1.out.2
        have hi := rfr_size (x0 : Int) (sq : Int) (.slice ua un uc) (.slice va vn vc)
        refine plan_one rfl rfl (fun K hK => ?_)
        refine wp_store_row 83 (.tmp 2) (.tmp 35) rfl w.heap.size (rfC (x0 : Int) (sq : Int) (.slice ua un uc) (.slice va vn vc)).toArray rfl rfl 83 _ R2 hi rfl (rfr_one _ _ _ _ _ _ _ _) ?_
        have k3 : Keep (fun b => b ≠ w.heap.size) w43 (w43.setRow w.heap.size (rfC (x0 : Int) (sq : Int) (.slice ua un uc) (.slice va vn vc)).toArray) := (Keep.refl _ _).setRow _ (fun h => h rfl)
        have R3 := heap_setRow R2 (rfC (x0 : Int) (sq : Int) (.slice ua un uc) (.slice va vn vc)).toArray
        refine hK _ _ ⟨(k3.cell (x := ⟨blk, off, none⟩) (Nat.ne_of_lt hblk)).trans ((kk.cell (x := ⟨blk, off, none⟩) hblk1).trans C0.out), ?_⟩
        clear hK K
        have GG := hid (And.intro g (And.intro kk (And.intro R3 k3)))
        clear g kk R2 R3 k3
        refine plan_last rfl rfl (fun K hK => ?_); go_simp
        refine hK _ _ ?_
        clear hK K
        go_wp2_with fail
        refine bodyPost_ret (v := .tuple #[.agg (rfC (x0 : Int) (sq : Int) (.slice ua un uc) (.slice va vn vc)).toArray, .bool true]) (results_cell_row_tmp rfl _ _ w.heap.size 83 _ (0, 0) _ rfl GG.out.2.2.1 Tryd.underlying83 rfl hi _ rfl) rfl ?_
        exact ⟨_, _, rfl, (GG.out.1.l.row.cells.mono (q := fun k => w.heap.size < k) (fun k hk => Nat.lt_of_lt_of_le z1 (GG.out.1.l.own k hk))).keep GG.out.2.2.2 (fun k h => Nat.ne_of_gt h), (GG.out.1.r.row.cells.mono (q := fun k => w.heap.size < k) (fun k hk => Nat.lt_of_lt_of_le z1 (GG.out.1.r.own k hk))).keep GG.out.2.2.2 (fun k h => Nat.ne_of_gt h), (H1.out.1.trans (GG.out.2.1.mono (fun b h => Nat.lt_trans h z1))).trans (GG.out.2.2.2.mono (fun b h => Nat.ne_of_lt h))⟩
end Go.Proofs.YtnpneippahdigaaDoor
