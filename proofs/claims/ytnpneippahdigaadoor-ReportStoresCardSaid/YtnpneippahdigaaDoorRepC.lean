/-
  Step by step: 'Put' of package report.
-/
import Derived.Test.YtnpneippahdigaaDoorRepB
namespace Go.Proofs.YtnpneippahdigaaDoor
open Go.RowKit Go.Proofs.Mem Go.Proofs.Txt

theorem Grow.low {w0 w : World} {v : Value} {cs : List Nat} (h : Grow w0 (.slice none 0 0) w v cs) : Keep (· < w0.heap.size) w0 w := h.keep.mono fun _ hb => ⟨hb, by simp [Value.ownBlock]⟩
/-- one more call of put. -/
theorem put_next {w0 w w' : World} {v0 v : Value} {cs : List Nat} (h : Grow w0 v0 w v cs) (kk : Keep (· < w.heap.size) w w') (lv : Value) (xs : List Int) (k : Nat) (ki : Int) (hki : ki = (k : Int)) (hl : Cells w' (fun b => v.ownBlock ≠ some b) lv (xs.map (Value.int .i64))) (hk0 : 0 < k) (hk : k ≤ 8) (hb : cs.length + k * xs.length ≤ 1099511627776) :
    Calls Tryd.prog 60 #[v, .int .i64 ki, lv] w' fun e w'' => ∃ v', e = .returned v' ∧ Grow w0 v0 w'' v' (cs ++ Rp.nums k xs) ∧ Grow w' v w'' v' (cs ++ Rp.nums k xs) := by
  subst hki
  have g := h.next kk
  refine (put_walk v cs k lv xs w' _ g.row hl (fun b hb => hb) hk hk0 hb).mono ?_
  rintro e w'' ⟨v', rfl, g'⟩
  exact ⟨v', rfl, g.trans g', g'⟩
theorem raceBytes_eq (x : Rp.Race) : Rp.raceBytes x = Rp.nums 2 [x.pl] ++ Rp.nums 4 [x.fi, x.se] ++ Rp.nums 1 [Rp.flags x] := by simp [Rp.raceBytes, Rp.nums]
theorem made_ints (w : World) (T : TypeId) (xs : List Int) (hl : xs.length ≤ 1000) : Cells (w.alloc (.cells (xs.map (Value.int .i64)).toArray T)) (fun b => w.heap.size ≤ b) (.slice (some ⟨w.heap.size, 0, none⟩) xs.length xs.length) (xs.map (Value.int .i64)) := by
  have := made_cells w T (fun b => w.heap.size ≤ b) (xs.map (Value.int .i64)) (Nat.le_refl _) (by rw [List.length_map]; exact hl)
  rwa [List.length_map] at this
theorem put_made {w0 w : World} {v0 v : Value} {cs : List Nat} (T : TypeId) (h : Grow w0 v0 w v cs) (xs : List Int) (k : Nat) (ki : Int) (hki : ki = (k : Int)) (hk0 : 0 < k) (hk : k ≤ 8) (hx : xs.length ≤ 4) (hb : cs.length ≤ 1000000) :
    Calls Tryd.prog 60 #[v, .int .i64 ki, .slice (some ⟨w.heap.size, 0, none⟩) xs.length xs.length] (w.alloc (.cells (xs.map (Value.int .i64)).toArray T)) fun e w'' => ∃ v', e = .returned v' ∧ Grow w0 v0 w'' v' (cs ++ Rp.nums k xs) :=
  (put_next h ((Keep.refl _ _).alloc _ (fun _ h => h)) _ xs k ki hki ((made_ints w T xs (by omega)).mono (fun b hb he => by have := h.row.lt he; omega)) hk0 hk (by have : k * xs.length ≤ 8 * 4 := Nat.mul_le_mul hk hx; omega)).mono fun e w'' ⟨v', h1, h2, _⟩ => ⟨v', h1, h2⟩

set_option maxRecDepth 100000 in
set_option maxHeartbeats 4000000 in
theorem rput_bad (r : Rp.Rep) (v : Value) (q : Addr) (w : World) (p : Nat → Prop) (hv : RacesAt w p v r.races) (he : w.cell? ⟨2, 0, none⟩ = some (.iface 217 (.pointer (some q)))) (hl : 2 < w.heap.size) (hno : Rp.ok r = false) :
    Calls Tryd.prog 18 #[.agg (rpC r v).toArray] w fun e w' => e = .returned (.tuple #[.slice none 0 0, .iface 217 (.pointer (some q))]) ∧ Keep (· < w.heap.size) w w' := by
  have HV := hid (hv.lt.mono (q := fun b => b < w.heap.size) (fun _ h => h.1))
  obtain ⟨va, vc, rfl, hc1, hc2⟩ := hv.form
  have HE := hid he
  have HO := hid hno
  obtain ⟨N, hN⟩ : ∃ N, r.races.length = N := ⟨_, rfl⟩
  rw [hN] at hc1 HV ⊢
  have rs := rp_size r (.slice va N vc)
  have CK := hid (show ∀ w0 : World, Keep (· < w.heap.size) w w0 → Calls Tryd.prog 17 #[.agg (rpC r (.slice va N vc)).toArray] w0 fun e w' => e = .returned (.iface 217 (.pointer (some q))) ∧ Keep (· < w0.heap.size) w0 w' from fun w0 k0 => by
    have := check_walk r (.slice va N vc) _ w0 _ (HV.out.keep k0 (fun _ h => h)) ((k0.cell (x := ⟨2, 0, none⟩) hl).trans HE.out) (Nat.lt_of_lt_of_le hl k0.size)
    rwa [HO.out, if_neg (by decide)] at this)
  clear hv he hno
  go_enter Tryd.func18, Tryd.ntmps18
  have R0 := hid (range_whole (heap_alloc_new w (.cells (rpC r (.slice va N vc)).toArray 26)))
  have K0 := hid (show Keep (· < w.heap.size) w (w.alloc (.cells (rpC r (.slice va N vc)).toArray 26)) from (Keep.refl _ _).alloc _ (fun _ h => h))
  go_wp2_with (refine wpList_load_mid rfl 26 (.tmp 1) rfl w.heap.size 0 rfl (rpC r (.slice va N vc)) _ R0.out Tryd.underlying26 rfl rs ?_)
  refine (CK.out _ K0.out).mono ?_
  rintro e w2 ⟨rfl, k2⟩
  have K2 := hid (K0.out.trans (k2.mono (fun b h => Nat.lt_of_lt_of_le h K0.out.size)))
  clear k2
  go_wp2_with fail
  go_ret2
  exact ⟨rfl, K2.out⟩
set_option maxRecDepth 100000 in
set_option maxHeartbeats 16000000 in
theorem rput_good (r : Rp.Rep) (v : Value) (ev : Value) (w : World) (p : Nat → Prop) (hv : RacesAt w p v r.races) (he : w.cell? ⟨2, 0, none⟩ = some ev) (hl : 2 < w.heap.size) (hno : Rp.ok r = true) :
    Calls Tryd.prog 18 #[.agg (rpC r v).toArray] w fun e w' => ∃ b, e = .returned (.tuple #[b, .nilIface]) ∧ Grow w (.slice none 0 0) w' b (Rp.bytes r) := by
  have HV := hid (hv.lt.mono (q := fun b => b < w.heap.size) (fun _ h => h.1))
  obtain ⟨va, vc, rfl, hc1, hc2⟩ := hv.form
  have HE := hid he
  have HO := hid hno
  obtain ⟨N, hN⟩ : ∃ N, r.races.length = N := ⟨_, rfl⟩
  have HN := hid hN
  have hN128 : N ≤ 128 := by
    have h := hno
    simp only [Rp.ok, Rp.headOk, Bool.and_eq_true, decide_eq_true_eq] at h
    rw [← hN]; exact h.1.2
  have HHB := hid (show Rp.headBytes r = Rp.nums 1 [r.o, r.f, r.g] ++ Rp.nums 8 [r.n] ++ Rp.nums 4 [r.at_, r.steps] ++ Rp.nums 2 [(N : Int)] by unfold Rp.headBytes; rw [hN])
  rw [hN] at hc1 HV ⊢
  have rs := rp_size r (.slice va N vc)
  have CK := hid (show ∀ w0 : World, Keep (· < w.heap.size) w w0 → Calls Tryd.prog 17 #[.agg (rpC r (.slice va N vc)).toArray] w0 fun e w' => e = .returned .nilIface ∧ Keep (· < w0.heap.size) w0 w' from fun w0 k0 => by
    have := check_walk r (.slice va N vc) _ w0 _ (HV.out.keep k0 (fun _ h => h)) ((k0.cell (x := ⟨2, 0, none⟩) hl).trans HE.out) (Nat.lt_of_lt_of_le hl k0.size)
    rwa [HO.out, if_pos rfl] at this)
  clear hv he hno hN
  go_enter Tryd.func18, Tryd.ntmps18
  have R0 := hid (range_whole (heap_alloc_new w (.cells (rpC r (.slice va N vc)).toArray 26)))
  have R1 := hid (heap_alloc_new w (.cells (rpC r (.slice va N vc)).toArray 26))
  have K0 := hid (show Keep (· < w.heap.size) w (w.alloc (.cells (rpC r (.slice va N vc)).toArray 26)) from (Keep.refl _ _).alloc _ (fun _ h => h))
  have hz0 := hid (show w.heap.size < (w.alloc (.cells (rpC r (.slice va N vc)).toArray 26)).heap.size by simp)
  go_wp2_with (refine wpList_load_mid rfl 26 (.tmp 1) rfl w.heap.size 0 rfl (rpC r (.slice va N vc)) _ R0.out Tryd.underlying26 rfl rs ?_)
  refine (CK.out _ K0.out).mono ?_
  rintro e w2 ⟨rfl, k2⟩
  have SS := hid (show ∀ wx : World, Keep (· < w2.heap.size) w2 wx → wx.cell? ⟨w.heap.size, 0, none⟩ = some (.int .i64 r.o) ∧ wx.cell? ⟨w.heap.size, 1, none⟩ = some (.int .i64 r.f) ∧ wx.cell? ⟨w.heap.size, 2, none⟩ = some (.int .i64 r.g) ∧ wx.cell? ⟨w.heap.size, 3, none⟩ = some (.int .i64 r.n) ∧ wx.cell? ⟨w.heap.size, 4, none⟩ = some (.int .i64 r.at_) ∧ wx.cell? ⟨w.heap.size, 5, none⟩ = some (.int .i64 r.steps) ∧ wx.cell? ⟨w.heap.size, 6, none⟩ = some (.slice va N vc) from fun wx kx => by
    have h := (kx.block _ (Nat.lt_of_lt_of_le hz0.out k2.size)).trans ((k2.block _ hz0.out).trans R1.out)
    exact ⟨cell_at h 0, cell_at h 1, cell_at h 2, cell_at h 3, cell_at h 4, cell_at h 5, cell_at h 6⟩)
  have K2 := hid (K0.out.trans (k2.mono (fun b h => Nat.lt_of_lt_of_le h K0.out.size)))
  clear k2 R0 R1 hz0 rs
  obtain ⟨B, hB⟩ : ∃ B, w.heap.size = B := ⟨_, rfl⟩
  have HBB := hid hB
  rw [hB] at SS ⊢
  clear hB
  have G0 := hid (show Grow w2 (.slice none 0 0) w2 (.slice none 0 0) [] from Grow.refl (Row.nil _ _))
  obtain ⟨c0, c1, c2, c3, c4, c5, c6⟩ := SS.out w2 (Keep.refl _ _)
  clear c3 c4 c5 c6
  go_wp2_with fail
  refine (put_made _ G0.out [r.o, r.f, r.g] 1 1 rfl (by decide) (by decide) (by simp) (by simp)).mono ?_
  rintro e w3 ⟨u3, rfl, g3⟩
  have G3 := hid g3
  clear c0 c1 c2 g3 G0
  obtain ⟨c0, c1, c2, c3, c4, c5, c6⟩ := SS.out w3 G3.out.low
  clear c0 c1 c2 c4 c5 c6
  go_wp2_with fail
  refine (put_made _ G3.out [r.n] 8 8 rfl (by decide) (by decide) (by simp) (by simp [Rp.nums_length])).mono ?_
  rintro e w4 ⟨u4, rfl, g4⟩
  have G4 := hid g4
  clear c3 g4 G3
  obtain ⟨c0, c1, c2, c3, c4, c5, c6⟩ := SS.out w4 G4.out.low
  clear c0 c1 c2 c3 c6
  go_wp2_with fail
  refine (put_made _ G4.out [r.at_, r.steps] 4 4 rfl (by decide) (by decide) (by simp) (by simp [Rp.nums_length])).mono ?_
  rintro e w5 ⟨u5, rfl, g5⟩
  have G5 := hid g5
  clear c4 c5 g5 G4
  obtain ⟨c0, c1, c2, c3, c4, c5, c6⟩ := SS.out w5 G5.out.low
  clear c0 c1 c2 c3 c4 c5
  go_wp2_with fail
  refine (put_made _ G5.out [(N : Int)] 2 2 rfl (by decide) (by decide) (by simp) (by simp [Rp.nums_length])).mono ?_
  rintro e w6 ⟨u6, rfl, g6⟩
  have G6 := hid (show Grow w2 (.slice none 0 0) w6 u6 (Rp.headBytes r) by rw [HHB.out]; simpa using g6)
  clear c6 g6 G5
  obtain ⟨c0, c1, c2, c3, c4, c5, c6⟩ := SS.out w6 G6.out.low
  clear c0 c1 c2 c3 c4 c5
  go_wp2_with fail
  go_loopg [5, 48] N (fun k s5 s48 wr => ∃ i : Nat, i + k = N ∧ s48 = .int .i64 (i : Int) ∧ Grow w2 (.slice none 0 0) wr s5 (Rp.headBytes r ++ (r.races.take i).flatMap Rp.raceBytes))
  case atStart => exact ⟨0, by omega, rfl, by simpa using G6.out⟩
  case round =>
    obtain ⟨i, hi, rfl, hg⟩ := hrel
    have HG := hid hg
    clear hg
    by_cases hlt : i < N
    · have hlt' : i < r.races.length := by rw [HN.out]; exact hlt
      obtain ⟨a, len, cap, e, _, _, _, hx⟩ := HV.out
      obtain ⟨blk, off, ha, hb, hr⟩ := hx i r.races[i] (List.getElem?_eq_getElem hlt')
      injection e with e1 e2 e3
      rw [ha] at e1
      subst e1
      have l0 : (i : Int) < (N : Int) := by omega
      have HT := hid (show (r.races.take (i + 1)).flatMap Rp.raceBytes = (r.races.take i).flatMap Rp.raceBytes ++ Rp.raceBytes r.races[i] by rw [List.take_succ_eq_append_getElem hlt', List.flatMap_append]; simp)
      obtain ⟨x, hxx⟩ : ∃ x, r.races[i] = x := ⟨_, rfl⟩
      have HXX := hid hxx
      rw [hxx] at hr
      have hr' : wr.rangeAt blk (off + i * 5) (rcC x) := fun j v hv => ((K2.out.trans (HG.out.low.mono (fun b h => Nat.lt_of_lt_of_le h K2.out.size))).cell (x := ⟨blk, off + i * 5 + j, none⟩) hb).trans (hr j v hv)
      have HR := hid hr'
      have hi5x := rc_size x
      have h15x := rc_one x
      have hlen : (Rp.headBytes r ++ (r.races.take i).flatMap Rp.raceBytes).length ≤ 10000 := by
        rw [List.length_append, Rp.headBytes_length, Rp.races_length, List.length_take]; omega
      have HL := hid hlen
      clear hr hr' hx hxx e2 e3 ha hb hlen
      go_upto_region 11 with (first | refine wpList_load_mid rfl 114 (.tmp 50) rfl blk (off + i * 5) rfl (rcC x) _ HR.out Tryd.underlying114 rfl hi5x ?_ | refine wpList_store_row rfl 114 (.tmp 7) (.tmp 51) rfl wr.heap.size (rcC x).toArray rfl rfl 114 _ (heap_alloc_new wr _) hi5x rfl h15x ?_)
      refine wp_world (fun wx => Keep (· < wr.heap.size) wr wx ∧ wx.heap[wr.heap.size]? = some (.cells (rcC x).toArray 114 (0, 0)) ∧ wr.heap.size < wx.heap.size) ⟨((Keep.refl _ _).alloc _ (fun _ h => h)).setRow _ (by simp), heap_setRow (heap_alloc_new wr _) _, by simp⟩ ?_
      rintro wa ⟨ka, XA, za⟩
      have hu5 : ∀ b, u5.ownBlock = some b → b < wr.heap.size := fun b hb => HG.out.row.lt hb
      have SX := hid (show ∀ wx : World, Keep (fun b => b < wa.heap.size ∧ u5.ownBlock ≠ some b) wa wx → wx.cell? ⟨wr.heap.size, 0, none⟩ = some (.int .i64 x.pl) ∧ wx.cell? ⟨wr.heap.size, 1, none⟩ = some (.int .i64 x.fi) ∧ wx.cell? ⟨wr.heap.size, 2, none⟩ = some (.int .i64 x.se) ∧ wx.cell? ⟨wr.heap.size, 3, none⟩ = some (.bool x.fw) ∧ wx.cell? ⟨wr.heap.size, 4, none⟩ = some (.bool x.sw) from fun wx kx => by
        have h := (kx.block _ ⟨za, fun h => Nat.lt_irrefl _ (hu5 _ h)⟩).trans XA
        exact ⟨cell_at h 0, cell_at h 1, cell_at h 2, cell_at h 3, cell_at h 4⟩)
      have GA := hid (HG.out.next ka)
      have GB := hid (show Grow wa u5 wa u5 _ from Grow.refl (GA.out.row))
      clear ka XA za hu5 h15x hi5x HR
      obtain ⟨X, hX⟩ : ∃ b, wr.heap.size = b := ⟨_, rfl⟩
      rw [hX] at SX ⊢
      clear hX
      simp only [Act.put]
      obtain ⟨CS, hCS⟩ : ∃ c, Rp.headBytes r ++ (r.races.take i).flatMap Rp.raceBytes = c := ⟨_, rfl⟩
      rw [hCS] at HL GB GA
      have HCS := hid hCS
      clear hCS
      go_cut [5] (fun s5 wx => Hid (Grow wa u5 wx s5 (CS ++ Rp.nums 2 [x.pl] ++ Rp.nums 4 [x.fi, x.se])))
      case first =>
        have hu5 : ∀ b, u5.ownBlock = some b → b < wa.heap.size := fun b hb => GB.out.row.lt hb
        have HU5 := hid hu5
        have hl2 : (CS ++ Rp.nums 2 [x.pl]).length ≤ 20000 := by
          have := HL.out
          rw [List.length_append, Rp.nums_length]; simp only [List.length_cons, List.length_nil]; omega
        have HL2 := hid hl2
        clear hu5 hl2
        have GD := hid (GB.out.next ((Keep.refl (· < wa.heap.size) wa).drew))
        clear GA
        refine wp_region_plan [true, true, true, false, false, true, true, true, true, false, false, false] (.free 0 (.free 1 (.free 2 (.free 5 (.free 6 (.free 7 (.free 8 (.alt (.one 3 (.alt (.one 4 (.one 9 (.one 10 (.last 11)))) (.one 9 (.one 4 (.one 10 (.last 11)))))) (.one 9 (.one 3 (.one 4 (.one 10 (.last 11)))))))))))))
          (fun wx => Keep (fun b => b < wa.heap.size ∧ u5.ownBlock ≠ some b) wa wx) (by kernel_rfl) (by kernel_rfl) (Keep.refl _ _).drew ?_
        refine plan_free rfl rfl (fun K hK => ?_); go_simp; refine hK _ ?_; clear hK K
        refine plan_free rfl rfl (fun K hK => ?_); go_simp; refine hK _ ?_; clear hK K
        refine plan_held (.int .i64 x.pl) rfl rfl (fun w0 h0 => by obtain ⟨q0, q1, q2, q3, q4⟩ := SX.out w0 h0; clear h0; go_simp) (fun K hK => ?_); go_simp; refine hK _ ?_; clear hK K
        refine plan_free rfl rfl (fun K hK => ?_); go_simp; refine hK _ ?_; clear hK K
        refine plan_held (.int .i64 x.fi) rfl rfl (fun w0 h0 => by obtain ⟨q0, q1, q2, q3, q4⟩ := SX.out w0 h0; clear h0; go_simp) (fun K hK => ?_); go_simp; refine hK _ ?_; clear hK K
        refine plan_free rfl rfl (fun K hK => ?_); go_simp; refine hK _ ?_; clear hK K
        refine plan_held (.int .i64 x.se) rfl rfl (fun w0 h0 => by obtain ⟨q0, q1, q2, q3, q4⟩ := SX.out w0 h0; clear h0; go_simp) (fun K hK => ?_); go_simp; refine hK _ ?_; clear hK K
        try simp only [Act.put]
        refine ⟨?o1, ?o2⟩
        case' o1 =>
          refine plan_one rfl rfl (fun K hK => ?_); go_simp
          refine hK _ _ ⟨(GD.out.next ((Keep.refl _ _).alloc _ (fun _ h => h))).keep, ?oa, ?ob⟩
        case oa =>
          clear hK K
          try simp only [Act.put]
          refine plan_one rfl rfl (fun K hK => ?_); go_simp
          refine (put_made _ GD.out [x.pl] 2 2 rfl (by decide) (by decide) (by simp) (by have := HL.out; omega)).mono ?_
          rintro e wb ⟨vb, rfl, gb⟩
          have GG := hid gb
          refine hK _ _ ⟨gb.keep, ?_⟩
          clear hK K gb
          try simp only [Act.put]
          refine plan_one rfl rfl (fun K hK => ?_); go_simp
          refine hK _ _ ⟨(GG.out.next ((Keep.refl _ _).alloc _ (fun _ h => h))).keep, ?_⟩
          clear hK K
          try simp only [Act.put]
          refine plan_one rfl rfl (fun K hK => ?_); go_simp
          refine (put_made _ GG.out [x.fi, x.se] 4 4 rfl (by decide) (by decide) (by simp) (by have := HL2.out; omega)).mono ?_
          rintro e wd ⟨vd, rfl, gd⟩
          have GE := hid gd
          refine hK _ _ ⟨gd.keep, ?_⟩
          clear hK K gd
          try simp only [Act.put]
          refine plan_last rfl rfl (fun K hK => ?_); go_simp
          refine hK _ _ ?_
          clear hK K
          go_wp2_with fail
          go_meet
          case rel => exact GE
        case' ob =>
          clear hK K
          try simp only [Act.put]
          refine plan_one rfl rfl (fun K hK => ?_); go_simp
          refine hK _ _ ⟨((GD.out.next ((Keep.refl _ _).alloc _ (fun _ h => h))).next ((Keep.refl _ _).alloc _ (fun _ h => h))).keep, ?_⟩
          clear hK K
          try simp only [Act.put]
          refine plan_world (fun wx => Grow wa u5 wx u5 CS ∧ Cells wx (fun b => u5.ownBlock ≠ some b) (.slice (some ⟨wa.heap.size, 0, none⟩) 1 1) ([x.pl].map (Value.int .i64)) ∧ Cells wx (fun b => u5.ownBlock ≠ some b) (.slice (some ⟨wa.heap.size + 1, 0, none⟩) 2 2) ([x.fi, x.se].map (Value.int .i64)))
            ⟨(GD.out.next ((Keep.refl _ _).alloc _ (fun _ h => h))).next ((Keep.refl _ _).alloc _ (fun _ h => h)), ((made_ints wa.drew 3 [x.pl] (by simp)).lt.keep (q := fun b => b < _) ((Keep.refl _ _).alloc _ (fun _ h => h)) (fun b h => h.1)).mono (fun b h he => by have := HU5.out b he; have h2 : wa.heap.size ≤ b := h.2; omega), (by
              have this := (made_ints (wa.drew.alloc (.cells #[.int .i64 x.pl] 3)) 3 [x.fi, x.se] (by simp)).mono (q := fun b => u5.ownBlock ≠ some b) (fun b h he => by have := HU5.out b he; simp at h; omega)
              rw [show (wa.drew.alloc (.cells #[.int .i64 x.pl] 3)).heap.size = wa.heap.size + 1 by simp] at this
              exact this)⟩ ?_
          rintro wx ⟨gx, c3, c9⟩
          have GXX := hid gx
          have C3 := hid c3
          have C9 := hid c9
          clear gx c3 c9
        case' o2 =>
          refine plan_one rfl rfl (fun K hK => ?_); go_simp
          refine hK _ _ ⟨(GD.out.next ((Keep.refl _ _).alloc _ (fun _ h => h))).keep, ?_⟩
          clear hK K
          try simp only [Act.put]
          refine plan_one rfl rfl (fun K hK => ?_); go_simp
          refine hK _ _ ⟨((GD.out.next ((Keep.refl _ _).alloc _ (fun _ h => h))).next ((Keep.refl _ _).alloc _ (fun _ h => h))).keep, ?_⟩
          clear hK K
          try simp only [Act.put]
          refine plan_world (fun wx => Grow wa u5 wx u5 CS ∧ Cells wx (fun b => u5.ownBlock ≠ some b) (.slice (some ⟨wa.heap.size + 1, 0, none⟩) 1 1) ([x.pl].map (Value.int .i64)) ∧ Cells wx (fun b => u5.ownBlock ≠ some b) (.slice (some ⟨wa.heap.size, 0, none⟩) 2 2) ([x.fi, x.se].map (Value.int .i64)))
            ⟨(GD.out.next ((Keep.refl _ _).alloc _ (fun _ h => h))).next ((Keep.refl _ _).alloc _ (fun _ h => h)), (by
              have this := (made_ints (wa.drew.alloc (.cells #[.int .i64 x.fi, .int .i64 x.se] 3)) 3 [x.pl] (by simp)).mono (q := fun b => u5.ownBlock ≠ some b) (fun b h he => by have := HU5.out b he; simp at h; omega)
              rw [show (wa.drew.alloc (.cells #[.int .i64 x.fi, .int .i64 x.se] 3)).heap.size = wa.heap.size + 1 by simp] at this
              exact this), ((made_ints wa.drew 3 [x.fi, x.se] (by simp)).lt.keep (q := fun b => b < _) ((Keep.refl _ _).alloc _ (fun _ h => h)) (fun b h => h.1)).mono (fun b h he => by have := HU5.out b he; have h2 : wa.heap.size ≤ b := h.2; omega)⟩ ?_
          rintro wx ⟨gx, c3, c9⟩
          have GXX := hid gx
          have C3 := hid c3
          have C9 := hid c9
          clear gx c3 c9
        all_goals
          refine plan_one rfl rfl (fun K hK => ?_); go_simp
          refine (put_next GXX.out (Keep.refl _ _) _ [x.pl] 2 2 rfl C3.out (by decide) (by decide) (by have := HL.out; simp only [List.length_cons, List.length_nil]; omega)).mono ?_
          rintro e wb ⟨vb, rfl, gb, gb2⟩
          have GG := hid gb
          have C9' := hid ((C9.out.lt.keep gb2.keep (fun b h => h)).mono (q := fun b => vb.ownBlock ≠ some b) (fun b h he => (gb2.own b he).elim h.2 (fun h' => by have := h.1; omega)))
          refine hK _ _ ⟨gb.keep, ?_⟩
          clear hK K gb gb2
          try simp only [Act.put]
          refine plan_one rfl rfl (fun K hK => ?_); go_simp
          refine (put_next GG.out (Keep.refl _ _) _ [x.fi, x.se] 4 4 rfl C9'.out (by decide) (by decide) (by have := HL2.out; simp only [List.length_cons, List.length_nil]; omega)).mono ?_
          rintro e wd ⟨vd, rfl, gd, _⟩
          have GE := hid gd
          refine hK _ _ ⟨gd.keep, ?_⟩
          clear hK K gd
          try simp only [Act.put]
          refine plan_last rfl rfl (fun K hK => ?_); go_simp
          refine hK _ _ ?_
          clear hK K
          go_wp2_with fail
          go_meet
          case rel => exact GE
      case rest =>
        have GC := hcut
        clear hcut
        obtain ⟨q0, q1, q2, q3, q4⟩ := SX.out wc GC.out.keep
        have GX := hid (GA.out.trans GC.out)
        have HL3 := hid (show (CS ++ Rp.nums 2 [x.pl] ++ Rp.nums 4 [x.fi, x.se]).length ≤ 20000 by
          have := HL.out
          rw [List.length_append, Rp.nums_length, List.length_append, Rp.nums_length]; simp only [List.length_cons, List.length_nil]; omega)
        have HF := hid (show Rp.flags x = (if x.fw then 1 else 0) + (if x.sw then 2 else 0) from rfl)
        obtain ⟨fw, hfw⟩ : ∃ b, x.fw = b := ⟨_, rfl⟩
        obtain ⟨sw, hsw⟩ : ∃ b, x.sw = b := ⟨_, rfl⟩
        rw [hfw] at q3 HF
        rw [hsw] at q4 HF
        have HEND := hid (show ∀ (F : Int) (s : Value) (wy : World), Rp.flags x = F → Grow w2 (.slice none 0 0) wy s (CS ++ Rp.nums 2 [x.pl] ++ Rp.nums 4 [x.fi, x.se] ++ Rp.nums 1 [F]) → Grow w2 (.slice none 0 0) wy s (Rp.headBytes r ++ (r.races.take (i + 1)).flatMap Rp.raceBytes) from fun F s wy hF g => by
          rw [HT.out, HXX.out, raceBytes_eq, hF, ← List.append_assoc, HCS.out]
          simpa only [List.append_assoc] using g)
        clear q0 q1 q2 hfw hsw GA GB GC
        cases fw <;> cases sw
        case false.false =>
          go_wp2_with fail
          refine (put_made _ GX.out [0] 1 1 rfl (by decide) (by decide) (by simp) (by have := HL3.out; omega)).mono ?_
          rintro e w7 ⟨u7, rfl, g7⟩
          have G7 := hid (HEND.out 0 u7 w7 HF.out g7)
          clear g7 q3 q4
          go_wp2_with fail
          go_roundg (gk - 1)
          case measure => omega
          case rel => exact ⟨i + 1, by omega, by go_num, G7.out⟩
        case false.true =>
          go_wp2_with fail
          refine (put_made _ GX.out [2] 1 1 rfl (by decide) (by decide) (by simp) (by have := HL3.out; omega)).mono ?_
          rintro e w7 ⟨u7, rfl, g7⟩
          have G7 := hid (HEND.out 2 u7 w7 HF.out g7)
          clear g7 q3 q4
          go_wp2_with fail
          go_roundg (gk - 1)
          case measure => omega
          case rel => exact ⟨i + 1, by omega, by go_num, G7.out⟩
        case true.false =>
          go_wp2_with fail
          refine (put_made _ GX.out [1] 1 1 rfl (by decide) (by decide) (by simp) (by have := HL3.out; omega)).mono ?_
          rintro e w7 ⟨u7, rfl, g7⟩
          have G7 := hid (HEND.out 1 u7 w7 HF.out g7)
          clear g7 q3 q4
          go_wp2_with fail
          go_roundg (gk - 1)
          case measure => omega
          case rel => exact ⟨i + 1, by omega, by go_num, G7.out⟩
        case true.true =>
          go_wp2_with fail
          refine (put_made _ GX.out [3] 1 1 rfl (by decide) (by decide) (by simp) (by have := HL3.out; omega)).mono ?_
          rintro e w7 ⟨u7, rfl, g7⟩
          have G7 := hid (HEND.out 3 u7 w7 HF.out g7)
          clear g7 q3 q4
          go_wp2_with fail
          go_roundg (gk - 1)
          case measure => omega
          case rel => exact ⟨i + 1, by omega, by go_num, G7.out⟩
    · obtain rfl : N = i := by omega
      have G7 := hid (show Grow w (.slice none 0 0) wr u5 (Rp.bytes r) by
        have h := HG.out
        rw [List.take_of_length_le (by rw [HN.out]; exact Nat.le_refl _)] at h
        exact ⟨h.row, (K2.out.trans (h.low.mono (fun b hb => Nat.lt_of_lt_of_le hb K2.out.size))).mono (fun b hb => hb.1), fun b hb => (h.own b hb).elim (fun h => by simp [Value.ownBlock] at h) (fun h => .inr (Nat.le_trans K2.out.size h))⟩)
      clear hlt
      go_wp2_with fail
      go_ret2
      exact ⟨_, rfl, G7.out⟩
end Go.Proofs.YtnpneippahdigaaDoor
