/-
  Step by step: 'Bytes' of the reference of layer 20.
-/
import Derived.Test.YtnpneippahdigaaDoorRepC
import Derived.Test.YtnpneippahdigaaDoorWireJ
namespace Go.Proofs.YtnpneippahdigaaDoor
open Go.RowKit Go.Proofs.Mem Go.Proofs.Txt

theorem be8_num (u : Nat) : Sha.be8 u = Rp.num u 8 := by
  simp only [Rp.num, Sha.be8]
  simp
theorem num_drop (u k : Nat) : ∀ j, j ≤ k → (Rp.num u k).drop (k - j) = Rp.num u j := by
  induction k with
  | zero => intro j hj; have h0 : j = 0 := by omega
            subst h0; simp [Rp.num]
  | succ k ih =>
    intro j hj
    by_cases h : j = k + 1
    · subst h; simp
    · rw [show k + 1 - j = (k - j) + 1 by omega]
      show (Rp.num u k).drop (k - j) = _
      exact ih j (by omega)
theorem rnum_num (n : Int) (m : Nat) (mi : Int) (hmi : mi = (m : Int)) (hm : m ≤ 8) (w : World) :
    Calls Tryd.prog 64 #[.int .i64 n, .int .i64 mi] w fun e w' => e = .returned (.slice (some ⟨w.heap.size, 0, none⟩) m m) ∧ w'.heap[w.heap.size]? = some (.cells (ints .u8 (Rp.num (Wr.u64 n) m)).toArray 5 (0, 0)) ∧ Keep (· < w.heap.size) w w' := by
  subst hmi
  have := rnum20_walk n m hm w
  rwa [be8_num, num_drop _ 8 m hm] at this
/-- a row of bytes grown by a number's bytes. -/
theorem Grow.num {w0 w w' : World} {v0 v : Value} {cs : List Nat} (h : Grow w0 v0 w v cs) (n : Int) (m : Nat) (hm : m ≤ 8) (ty : TypeId) (hw : w'.heap[w.heap.size]? = some (.cells (ints .u8 (Rp.num (Wr.u64 n) m)).toArray 5 (0, 0))) (k : Keep (· < w.heap.size) w w') (hb : cs.length ≤ 1000000) :
    ∃ v' w'', (Builtin.append_ #[32, 32] ty #[v, .slice (some ⟨w.heap.size, 0, none⟩) m m]).run Tryd.prog w' = .ok v' w'' ∧ Grow w0 v0 w'' v' (cs ++ Rp.num (Wr.u64 n) m) :=
  (h.next k).app ty _ _ (p := fun _ => True) (by
    have := Cells.of_block (w := w') (p := fun _ => True) (cur := ints .u8 (Rp.num (Wr.u64 n) m)) (off := 0) (n := m) (cap := m) hw trivial (by rw [ints_length, Rp.num_length]; omega) (Nat.le_refl _) (by unfold maxLen; omega)
    rwa [List.drop_zero, List.take_of_length_le (by rw [ints_length, Rp.num_length]; exact Nat.le_refl _)] at this) (by rw [Rp.num_length]; omega)
theorem u8_num (n : Int) : Rp.num (Wr.u64 n) 1 = [Wr.u8 n] := by
  simp only [Rp.num, Wr.u64, Wr.u8]
  congr 1
  have := Int.emod_nonneg n (show (18446744073709551616 : Int) ≠ 0 by decide)
  omega
theorem u8_wrap8 (n : Int) : IntKind.u8.wrap n = (Wr.u8 n : Int) := by rw [IntKind.wrap_u8]; unfold Wr.u8; omega
theorem raceB_eq (x : Rp.Race) : Rp.raceBytes x = Rp.num (Wr.u64 x.pl) 2 ++ Rp.num (Wr.u64 x.fi) 4 ++ Rp.num (Wr.u64 x.se) 4 ++ Rp.num (Wr.u64 (Rp.flags x)) 1 := by simp [Rp.raceBytes]
theorem headB_eq (r : Rp.Rep) : Rp.headBytes r = [Wr.u8 r.o, Wr.u8 r.f, Wr.u8 r.g] ++ Rp.num (Wr.u64 r.n) 8 ++ Rp.num (Wr.u64 r.at_) 4 ++ Rp.num (Wr.u64 r.steps) 4 ++ Rp.num (Wr.u64 (r.races.length : Nat)) 2 := by
  simp only [Rp.headBytes, Rp.nums, List.flatMap_cons, List.flatMap_nil, List.append_nil, u8_num]
  simp [List.append_assoc]

set_option maxRecDepth 100000 in
set_option maxHeartbeats 8000000 in
theorem rbytes_walk (r : Rp.Rep) (v : Value) (w : World) (p : Nat → Prop) (hv : RacesAt w p v r.races) (hN128 : r.races.length ≤ 1000) :
    Calls Tryd.prog 21 #[.agg (rpC r v).toArray] w fun e w' => ∃ b, e = .returned b ∧ Grow w (.slice none 0 0) w' b (Rp.bytes r) := by
  have HV := hid (hv.lt.mono (q := fun b => b < w.heap.size) (fun _ h => h.1))
  obtain ⟨va, vc, rfl, hc1, hc2⟩ := hv.form
  obtain ⟨N, hN⟩ : ∃ N, r.races.length = N := ⟨_, rfl⟩
  have HN := hid hN
  have HHB := hid (headB_eq r)
  rw [hN] at hc1 HV hN128 HHB ⊢
  have g1 := u8_wrap8 r.o
  have g2 := u8_wrap8 r.f
  have g3 := u8_wrap8 r.g
  obtain ⟨q1, hq1⟩ : ∃ q, Wr.u8 r.o = q := ⟨_, rfl⟩
  obtain ⟨q2, hq2⟩ : ∃ q, Wr.u8 r.f = q := ⟨_, rfl⟩
  obtain ⟨q3, hq3⟩ : ∃ q, Wr.u8 r.g = q := ⟨_, rfl⟩
  rw [hq1] at g1 HHB
  rw [hq2] at g2 HHB
  rw [hq3] at g3 HHB
  clear hv hN hq1 hq2 hq3
  go_enter Tryd.func21, Tryd.ntmps21
  go_upto_region 1 with fail
  refine wp_world (fun w1 => Keep (· < w.heap.size) w w1 ∧ w1.heap[w.heap.size]? = some (.cells (rpC r (.slice va N vc)).toArray 26 (0, 0)) ∧ w.heap.size < w1.heap.size) ⟨(Keep.refl _ _).alloc _ (fun _ h => h), heap_alloc_new w _, by simp⟩ ?_
  rintro w1 ⟨k1, R1, z1⟩
  have SS := hid (show ∀ wx : World, Keep (· < w1.heap.size) w1 wx → wx.cell? ⟨w.heap.size, 0, none⟩ = some (.int .i64 r.o) ∧ wx.cell? ⟨w.heap.size, 1, none⟩ = some (.int .i64 r.f) ∧ wx.cell? ⟨w.heap.size, 2, none⟩ = some (.int .i64 r.g) ∧ wx.cell? ⟨w.heap.size, 3, none⟩ = some (.int .i64 r.n) ∧ wx.cell? ⟨w.heap.size, 4, none⟩ = some (.int .i64 r.at_) ∧ wx.cell? ⟨w.heap.size, 5, none⟩ = some (.int .i64 r.steps) ∧ wx.cell? ⟨w.heap.size, 6, none⟩ = some (.slice va N vc) from fun wx kx => by
    have h := (kx.block _ z1).trans R1
    exact ⟨cell_at h 0, cell_at h 1, cell_at h 2, cell_at h 3, cell_at h 4, cell_at h 5, cell_at h 6⟩)
  have K1 := hid k1
  clear k1 R1 z1
  obtain ⟨B, hB⟩ : ∃ B, w.heap.size = B := ⟨_, rfl⟩
  rw [hB] at SS ⊢
  have HB := hid hB
  clear hB
  obtain ⟨c0, c1, c2, c3, c4, c5, c6⟩ := SS.out w1 (Keep.refl _ _)
  clear c3 c4 c5 c6
  go_upto_region 2 with fail
  refine wp_world (fun w2 => Grow w1 (.slice none 0 0) w2 (.slice (some ⟨w1.heap.size, 0, none⟩) 3 3) [q1, q2, q3]) ⟨row_of_block (cs := ints .u8 [q1, q2, q3]) (heap_alloc_new w1 _) (by simp [ints, maxLen]), ((Keep.refl (· < w1.heap.size) w1).alloc _ (fun _ h => h)).mono (fun b h => h.1), fun b hb => .inr (by simp [Value.ownBlock] at hb; omega)⟩ ?_
  rintro w2 g2'
  have G2 := hid g2'
  clear g2' c0 c1 c2
  obtain ⟨c0, c1, c2, c3, c4, c5, c6⟩ := SS.out w2 G2.out.low
  clear c0 c1 c2 c4 c5 c6
  go_wp2_with fail
  refine (rnum_num r.n 8 8 rfl (by decide) w2).mono ?_
  rintro e w3 ⟨rfl, h3, k3⟩
  have HA := hid (G2.out.num r.n 8 (by decide) 32 h3 k3 (by simp))
  clear h3 k3 c3
  go_upto_region 3 with (at_builtin; refine wpList_app rfl (.tmp 20) (.tmp 24) 32 32 rfl _ HA.out ?_; rintro u4 w4 g4; have G4 := hid g4; clear g4)
  obtain ⟨c0, c1, c2, c3, c4, c5, c6⟩ := SS.out w4 G4.out.low
  clear c0 c1 c2 c3 c5 c6 HA
  go_wp2_with fail
  refine (rnum_num r.at_ 4 4 rfl (by decide) w4).mono ?_
  rintro e w5 ⟨rfl, h5, k5⟩
  have HA := hid (G4.out.num r.at_ 4 (by decide) 32 h5 k5 (by simp [Rp.num_length]))
  clear h5 k5 c4
  go_upto_region 4 with (at_builtin; refine wpList_app rfl (.tmp 26) (.tmp 30) 32 32 rfl _ HA.out ?_; rintro u6 w6 g6; have G6 := hid g6; clear g6)
  obtain ⟨c0, c1, c2, c3, c4, c5, c6⟩ := SS.out w6 G6.out.low
  clear c0 c1 c2 c3 c4 c6 HA
  go_wp2_with fail
  refine (rnum_num r.steps 4 4 rfl (by decide) w6).mono ?_
  rintro e w7 ⟨rfl, h7, k7⟩
  have HA := hid (G6.out.num r.steps 4 (by decide) 32 h7 k7 (by simp [Rp.num_length]))
  clear h7 k7 c5
  go_upto_region 5 with (at_builtin; refine wpList_app rfl (.tmp 32) (.tmp 35) 32 32 rfl _ HA.out ?_; rintro u8 w8 g8; have G8 := hid g8; clear g8)
  obtain ⟨c0, c1, c2, c3, c4, c5, c6⟩ := SS.out w8 G8.out.low
  clear c0 c1 c2 c3 c4 c5 HA
  go_wp2_with fail
  refine (rnum_num (N : Int) 2 2 rfl (by decide) w8).mono ?_
  rintro e w9 ⟨rfl, h9, k9⟩
  have HA := hid (G8.out.num (N : Int) 2 (by decide) 32 h9 k9 (by simp [Rp.num_length]))
  clear h9 k9 c6
  go_upto_region 6 with (at_builtin; refine wpList_app rfl (.tmp 37) (.tmp 41) 32 32 rfl _ HA.out ?_; rintro ua wa ga; have GH := hid (show Grow w1 (.slice none 0 0) wa ua (Rp.headBytes r) by rw [HHB.out]; exact ga); clear ga)
  obtain ⟨c0, c1, c2, c3, c4, c5, c6⟩ := SS.out wa GH.out.low
  clear c0 c1 c2 c3 c4 c5 HA G2 G4 G6 G8 g1 g2 g3 HHB
  go_wp2_with fail
  go_loopg [3, 46] N (fun k s3 s46 wr => ∃ i : Nat, i + k = N ∧ s46 = .int .i64 (i : Int) ∧ Grow w1 (.slice none 0 0) wr s3 (Rp.headBytes r ++ (r.races.take i).flatMap Rp.raceBytes))
  case atStart => exact ⟨0, by omega, rfl, by simpa using GH.out⟩
  case round =>
    obtain ⟨i, hi, rfl, hg⟩ := hrel
    have HG := hid hg
    clear hg
    by_cases hlt : i < N
    · have hlt' : i < r.races.length := by rw [HN.out]; exact hlt
      obtain ⟨a, len, cap, e, _, _, _, hx⟩ := HV.out
      obtain ⟨blk, off, ha, hb, hr⟩ := hx i r.races[i] (List.getElem?_eq_getElem hlt')
      injection e with e1 e2 e3
      rw [ha] at e1
      subst e1
      have l0 : (i : Int) < (N : Int) := by omega
      have HT := hid (show (r.races.take (i + 1)).flatMap Rp.raceBytes = (r.races.take i).flatMap Rp.raceBytes ++ Rp.raceBytes r.races[i] by rw [List.take_succ_eq_append_getElem hlt', List.flatMap_append]; simp)
      obtain ⟨x, hxx⟩ : ∃ x, r.races[i] = x := ⟨_, rfl⟩
      have HXX := hid hxx
      rw [hxx] at hr
      have hr' : wr.rangeAt blk (off + i * 5) (rcC x) := fun j v hv => ((K1.out.trans (HG.out.low.mono (fun b h => Nat.lt_of_lt_of_le h K1.out.size))).cell (x := ⟨blk, off + i * 5 + j, none⟩) hb).trans (hr j v hv)
      have HR := hid hr'
      have hi5x := rc_size x
      have h15x := rc_one x
      have hlen : (Rp.headBytes r ++ (r.races.take i).flatMap Rp.raceBytes).length ≤ 20000 := by
        rw [List.length_append, Rp.headBytes_length, Rp.races_length, List.length_take]; omega
      have HL := hid hlen
      clear hr hr' hx hxx e2 e3 ha hb hlen
      go_upto_region 9 with (first | refine wpList_load_mid rfl 114 (.tmp 48) rfl blk (off + i * 5) rfl (rcC x) _ HR.out Tryd.underlying114 rfl hi5x ?_ | refine wpList_store_row rfl 114 (.tmp 5) (.tmp 49) rfl wr.heap.size (rcC x).toArray rfl rfl 114 _ (heap_alloc_new wr _) hi5x rfl h15x ?_)
      refine wp_world (fun wx => Keep (· < wr.heap.size) wr wx ∧ wx.heap[wr.heap.size]? = some (.cells (rcC x).toArray 114 (0, 0)) ∧ wr.heap.size < wx.heap.size) ⟨((Keep.refl _ _).alloc _ (fun _ h => h)).setRow _ (by simp), heap_setRow (heap_alloc_new wr _) _, by simp⟩ ?_
      rintro wb ⟨kb, XB, zb⟩
      have hu5 : ∀ b, u3.ownBlock = some b → b < wr.heap.size := fun b hb => HG.out.row.lt hb
      have SX := hid (show ∀ wx : World, Keep (fun b => b < wb.heap.size ∧ u3.ownBlock ≠ some b) wb wx → wx.cell? ⟨wr.heap.size, 0, none⟩ = some (.int .i64 x.pl) ∧ wx.cell? ⟨wr.heap.size, 1, none⟩ = some (.int .i64 x.fi) ∧ wx.cell? ⟨wr.heap.size, 2, none⟩ = some (.int .i64 x.se) ∧ wx.cell? ⟨wr.heap.size, 3, none⟩ = some (.bool x.fw) ∧ wx.cell? ⟨wr.heap.size, 4, none⟩ = some (.bool x.sw) from fun wx kx => by
        have h := (kx.block _ ⟨zb, fun h => Nat.lt_irrefl _ (hu5 _ h)⟩).trans XB
        exact ⟨cell_at h 0, cell_at h 1, cell_at h 2, cell_at h 3, cell_at h 4⟩)
      have GA := hid (HG.out.next kb)
      have GB := hid (show Grow wb u3 wb u3 _ from Grow.refl (GA.out.row))
      clear kb XB zb hu5 h15x hi5x HR
      obtain ⟨X, hX⟩ : ∃ b, wr.heap.size = b := ⟨_, rfl⟩
      rw [hX] at SX ⊢
      clear hX
      obtain ⟨CS, hCS⟩ : ∃ c, Rp.headBytes r ++ (r.races.take i).flatMap Rp.raceBytes = c := ⟨_, rfl⟩
      rw [hCS] at HL GB GA
      have HCS := hid hCS
      clear hCS
      obtain ⟨x0, x1, x2, x3, x4⟩ := SX.out wb (Keep.refl _ _)
      clear x1 x2 x3 x4
      go_wp2_with fail
      refine (rnum_num x.pl 2 2 rfl (by decide) wb).mono ?_
      rintro e wc ⟨rfl, hc, kc⟩
      have HA := hid (GB.out.num x.pl 2 (by decide) 32 hc kc (by have := HL.out; omega))
      clear hc kc x0
      go_upto_region 10 with (at_builtin; refine wpList_app rfl (.tmp 50) (.tmp 53) 32 32 rfl _ HA.out ?_; rintro ud wd gd; have GD := hid gd; clear gd)
      obtain ⟨x0, x1, x2, x3, x4⟩ := SX.out wd GD.out.keep
      clear x0 x2 x3 x4 HA
      go_wp2_with fail
      refine (rnum_num x.fi 4 4 rfl (by decide) wd).mono ?_
      rintro e wc ⟨rfl, hc, kc⟩
      have HA := hid (GD.out.num x.fi 4 (by decide) 32 hc kc (by have := HL.out; rw [List.length_append, Rp.num_length]; omega))
      clear hc kc x1
      go_upto_region 11 with (at_builtin; refine wpList_app rfl (.tmp 55) (.tmp 58) 32 32 rfl _ HA.out ?_; rintro ue we ge; have GE := hid ge; clear ge)
      obtain ⟨x0, x1, x2, x3, x4⟩ := SX.out we GE.out.keep
      clear x0 x1 x3 x4 HA
      go_wp2_with fail
      refine (rnum_num x.se 4 4 rfl (by decide) we).mono ?_
      rintro e wc ⟨rfl, hc, kc⟩
      have HA := hid (GE.out.num x.se 4 (by decide) 32 hc kc (by have := HL.out; rw [List.length_append, List.length_append, Rp.num_length, Rp.num_length]; omega))
      clear hc kc x2
      go_upto_region 12 with (at_builtin; refine wpList_app rfl (.tmp 60) (.tmp 63) 32 32 rfl _ HA.out ?_; rintro uf wf gf; have GF := hid gf; clear gf)
      obtain ⟨x0, x1, x2, x3, x4⟩ := SX.out wf GF.out.keep
      have HF := hid (show Rp.num (Wr.u64 (Rp.flags x)) 1 = [Wr.u8 ((if x.fw then 1 else 0) + (if x.sw then 2 else 0))] from u8_num _)
      obtain ⟨fw, hfw⟩ : ∃ b, x.fw = b := ⟨_, rfl⟩
      obtain ⟨sw, hsw⟩ : ∃ b, x.sw = b := ⟨_, rfl⟩
      rw [hfw] at x3 HF
      rw [hsw] at x4 HF
      have HEND := hid (show ∀ (F : Nat) (s : Value) (wy : World), Rp.num (Wr.u64 (Rp.flags x)) 1 = [F] → Grow wb u3 wy s (CS ++ Rp.num (Wr.u64 x.pl) 2 ++ Rp.num (Wr.u64 x.fi) 4 ++ Rp.num (Wr.u64 x.se) 4 ++ [F]) → Grow w1 (.slice none 0 0) wy s (Rp.headBytes r ++ (r.races.take (i + 1)).flatMap Rp.raceBytes) from fun F s wy hF g => by
        rw [HT.out, HXX.out, raceB_eq, hF, ← List.append_assoc, HCS.out]
        simpa only [List.append_assoc] using GA.out.trans g)
      have HAP := hid (show ∀ F : Nat, ∃ v' w'', (Builtin.append_ #[32, 32] 32 #[uf, .slice (some ⟨wf.heap.size, 0, none⟩) 1 1]).run Tryd.prog (wf.alloc (.cells (ints .u8 [F]).toArray 5)) = .ok v' w'' ∧ Grow wb u3 w'' v' (CS ++ Rp.num (Wr.u64 x.pl) 2 ++ Rp.num (Wr.u64 x.fi) 4 ++ Rp.num (Wr.u64 x.se) 4 ++ [F]) from fun F => (GF.out.next ((Keep.refl _ _).alloc _ (fun _ h => h))).app 32 _ [F] (made_cells wf 5 (fun _ => True) (ints .u8 [F]) trivial (by simp [ints])) (by have := HL.out; simp only [List.length_append, Rp.num_length, List.length_cons, List.length_nil]; omega))
      clear x0 x1 x2 hfw hsw HA
      cases fw <;> cases sw
      case false.false =>
        have HA := hid (HAP.out 0)
        have HE := hid (show Rp.num (Wr.u64 (Rp.flags x)) 1 = [0] from HF.out)
        go_wp2_with (at_builtin; refine wpList_app rfl (.tmp 73) (.tmp 75) 32 32 rfl _ HA.out ?_; rintro ug wg gg; have GG := hid (HEND.out 0 ug wg HE.out gg); clear gg)
        go_roundg (gk - 1)
        case measure => omega
        case rel => exact ⟨i + 1, by omega, by go_num, GG.out⟩
      case false.true =>
        have HA := hid (HAP.out 2)
        have HE := hid (show Rp.num (Wr.u64 (Rp.flags x)) 1 = [2] from HF.out)
        go_wp2_with (at_builtin; refine wpList_app rfl (.tmp 73) (.tmp 75) 32 32 rfl _ HA.out ?_; rintro ug wg gg; have GG := hid (HEND.out 2 ug wg HE.out gg); clear gg)
        go_roundg (gk - 1)
        case measure => omega
        case rel => exact ⟨i + 1, by omega, by go_num, GG.out⟩
      case true.false =>
        have HA := hid (HAP.out 1)
        have HE := hid (show Rp.num (Wr.u64 (Rp.flags x)) 1 = [1] from HF.out)
        go_wp2_with (at_builtin; refine wpList_app rfl (.tmp 73) (.tmp 75) 32 32 rfl _ HA.out ?_; rintro ug wg gg; have GG := hid (HEND.out 1 ug wg HE.out gg); clear gg)
        go_roundg (gk - 1)
        case measure => omega
        case rel => exact ⟨i + 1, by omega, by go_num, GG.out⟩
      case true.true =>
        have HA := hid (HAP.out 3)
        have HE := hid (show Rp.num (Wr.u64 (Rp.flags x)) 1 = [3] from HF.out)
        go_wp2_with (at_builtin; refine wpList_app rfl (.tmp 73) (.tmp 75) 32 32 rfl _ HA.out ?_; rintro ug wg gg; have GG := hid (HEND.out 3 ug wg HE.out gg); clear gg)
        go_roundg (gk - 1)
        case measure => omega
        case rel => exact ⟨i + 1, by omega, by go_num, GG.out⟩
    · obtain rfl : N = i := by omega
      have G7 := hid (show Grow w (.slice none 0 0) wr u3 (Rp.bytes r) by
        have h := HG.out
        rw [List.take_of_length_le (by rw [HN.out]; exact Nat.le_refl _)] at h
        exact ⟨h.row, (K1.out.trans (h.low.mono (fun b hb => Nat.lt_of_lt_of_le hb K1.out.size))).mono (fun b hb => hb.1), fun b hb => (h.own b hb).elim (fun h => by simp [Value.ownBlock] at h) (fun h => .inr (Nat.le_trans K1.out.size h))⟩)
      clear hlt
      go_wp2_with fail
      go_ret
      exact ⟨_, rfl, G7.out⟩
end Go.Proofs.YtnpneippahdigaaDoor
