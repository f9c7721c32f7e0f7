/-
  Step by step: 'Word', 'Taken', 'Now', 'Tick', 'Pick' of package draw.
-/
import Derived.Test.YtjknjjcdgniodaaDoorDraw2
namespace Go.Proofs.YtjknjjcdgniodaaDoor
open Go.RowKit Go.Proofs.Mem

theorem strC_rest {root blk : List Nat} {a : Int} {rest : List Value} (hr : root.length = 32) (hb : blk.length = 32) (i : Nat) : (strC root blk a rest)[65 + i]? = rest[i]? := by
  unfold strC
  rw [List.getElem?_append_right (by rw [ints_length]; omega), List.getElem?_append_right (by rw [ints_length, ints_length]; omega), ints_length, ints_length, hr, hb, show 65 + i - 32 - 32 = i + 1 by omega, List.getElem?_cons_succ]
theorem strC_setrest {root blk : List Nat} {a : Int} {rest : List Value} (hr : root.length = 32) (hb : blk.length = 32) (i : Nat) (v : Value) : (strC root blk a rest).set (65 + i) v = strC root blk a (rest.set i v) := by
  unfold strC
  rw [List.set_append_right _ _ (by rw [ints_length]; omega), List.set_append_right _ _ (by rw [ints_length, ints_length]; omega), ints_length, ints_length, hr, hb, show 65 + i - 32 - 32 = i + 1 by omega, List.set_cons_succ]
theorem DrawAt.taken {w : World} {b : Nat} {root : List Nat} {t n : Nat} (h : DrawAt w b root t n) (hr : root.length = 32) : w.cell? ⟨b, 65, none⟩ = some (.int .i64 (t : Int)) := by
  obtain ⟨blk, a, hh, hb, _⟩ := h
  rw [cell_at hh]; exact strC_rest hr hb 0
theorem DrawAt.now {w : World} {b : Nat} {root : List Nat} {t n : Nat} (h : DrawAt w b root t n) (hr : root.length = 32) : w.cell? ⟨b, 66, none⟩ = some (.int .i64 (n : Int)) := by
  obtain ⟨blk, a, hh, hb, _⟩ := h
  rw [cell_at hh]; exact strC_rest hr hb 1
theorem DrawAt.frozen {w : World} {b : Nat} {root : List Nat} {t n : Nat} (h : DrawAt w b root t n) (i : Nat) : w.frozen? ⟨b, i, none⟩ = false := by
  obtain ⟨blk, a, hh, hb, _⟩ := h
  exact frozen_at hh i
theorem DrawAt.lt {w : World} {b : Nat} {root : List Nat} {t n : Nat} (h : DrawAt w b root t n) : b < w.heap.size := StreamAt.lt h
theorem DrawAt.keep {p : Nat → Prop} {w w' : World} {b : Nat} {root : List Nat} {t n : Nat} (h : DrawAt w b root t n) (k : Keep p w w') (hp : p b) : DrawAt w' b root t n := StreamAt.keep h k hp
theorem DrawAt.drew {w : World} {b : Nat} {root : List Nat} {t n : Nat} (h : DrawAt w b root t n) : DrawAt w.drew b root t n := h
theorem DrawAt.take {w : World} {b : Nat} {root : List Nat} {t n : Nat} (h : DrawAt w b root t n) (hr : root.length = 32) (t' : Nat) : DrawAt (w.setCell ⟨b, 65, none⟩ (.int .i64 (t' : Int))) b root t' n := by
  obtain ⟨blk, a, hh, hb, ha⟩ := h
  refine ⟨blk, a, ?_, hb, ha⟩
  rw [set_at hh, strC_setrest hr hb 0]
  rfl
theorem DrawAt.tick {w : World} {b : Nat} {root : List Nat} {t n : Nat} (h : DrawAt w b root t n) (hr : root.length = 32) (n' : Nat) : DrawAt (w.setCell ⟨b, 66, none⟩ (.int .i64 (n' : Int))) b root t n' := by
  obtain ⟨blk, a, hh, hb, ha⟩ := h
  refine ⟨blk, a, ?_, hb, ha⟩
  rw [set_at hh, strC_setrest hr hb 1]
  rfl
theorem rest_one (t n : Nat) : ∀ v ∈ drawRest t n, v.oneCell' = true := by
  intro v hv
  simp only [drawRest, List.mem_cons, List.not_mem_nil, or_false] at hv
  rcases hv with rfl | rfl <;> rfl
/-- what a tenant's stream needs of the world. -/
structure DOk (w : World) (b : Nat) (root : List Nat) : Prop where
  len : root.length = 32
  byte : ∀ x ∈ root, x < 256
  turns : TurnsAt w
  ne : 17 ≠ b
theorem DOk.keep {p : Nat → Prop} {w w' : World} {b : Nat} {root : List Nat} (h : DOk w b root) (k : Keep p w w') (hp : p 17) : DOk w' b root := ⟨h.len, h.byte, h.turns.keep k hp, h.ne⟩
theorem DOk.keep' {w w' : World} {b : Nat} {root : List Nat} (h : DOk w b root) (k : Keep (fun k => k < w.heap.size ∧ k ≠ b) w w') : DOk w' b root := h.keep k ⟨h.turns.lt, h.ne⟩

set_option maxRecDepth 100000 in
set_option maxHeartbeats 1000000 in
theorem dword_walk (b : Nat) (root : List Nat) (t n : Nat) (w : World) (ht : t < 1152921504606846976) (hk : DOk w b root) (hb : DrawAt w b root t n) :
    Calls Tryd.prog 34 #[.pointer (some ⟨b, 0, none⟩)] w fun e w' => e = .returned (.int .u64 (Drw.wordN root t : Nat)) ∧ Keep (fun k => k < w.heap.size ∧ k ≠ b) w w' ∧ DrawAt w' b root (t + 1) n := by
  have hr := hk.len
  have c65 := hb.taken hr
  have f65 := hb.frozen 65
  have HB := hid hb
  have HK := hid hk
  have HR := hid hr
  clear hb hk hr
  go_enter Tryd.func34, Tryd.ntmps34
  go_wp2_with fail
  refine wp_world (fun w1 => DrawAt w1 b root (t + 1) n ∧ Keep (fun k => k ≠ b) w w1) ⟨by have := HB.out.take HR.out (t + 1); rwa [Int.natCast_add] at this, (Keep.refl _ _).setCell _ (by simp)⟩ ?_
  rintro w1 ⟨hb1, k1⟩
  have d65 := hb1.taken HR.out
  have H1 := hid (And.intro hb1 k1)
  have z1 := k1.size
  clear hb1 k1 c65 f65
  refine Txt.wp_region_text [true, true, true, true, true, true, true, true, false, true] (fun wx => wx.cell? ⟨b, 65, none⟩ = some (.int .i64 ((t + 1 : Nat) : Int))) (by kernel_rfl) (by kernel_rfl) d65 ?_
  iterate 6 (refine Txt.text_free rfl (fun K hK => ?_); go_simp; refine hK _ ?_; clear hK K)
  refine Txt.text_held (.int .i64 ((t + 1 : Nat) : Int)) rfl (fun w0 h0 => by go_simp) (fun K hK => hK _ ?_)
  refine Txt.text_free rfl (fun K hK => ?_); go_simp; refine hK _ ?_; clear hK K
  refine Txt.text_chain rfl (fun K hK => ?_)
  go_simp
  rw [show IntKind.i64.wrap (t : Int) = (t : Int) from IntWalk.i64_in _ (by omega)]
  have hb1 := H1.out.1
  refine (word_walk 98 b root (drawRest (t + 1) n) t w1.drew HR.out HK.out.byte (by omega) (HK.out.turns.keep (H1.out.2.drewN 1) HK.out.ne) hb1 HK.out.ne (rest_one _ _)).mono ?_
  rintro e w2 ⟨rfl, k2, h2⟩
  have hb2 : DrawAt w2 b root (t + 1) n := h2
  have e65 := hb2.taken HR.out
  have H2 := hid (And.intro ((H1.out.2.mono (fun k (h : k < w.heap.size ∧ k ≠ b) => h.2)).trans ((Keep.refl _ w1).drew.trans (k2.mono (fun k h => ⟨Nat.lt_of_lt_of_le h.1 z1, h.2⟩)))) hb2)
  clear k2 h2 hb2 hb1 d65
  refine hK _ _ ⟨e65, ?_⟩
  clear hK K
  refine Txt.text_free rfl (fun K hK => ?_); go_simp; refine hK _ ?_; clear hK K
  refine Txt.text_done ?_
  go_wp2_with fail
  go_ret
  exact ⟨rfl, H2.out.1, H2.out.2⟩

theorem dtaken_walk (b : Nat) (root : List Nat) (t n : Nat) (w : World) (hr : root.length = 32) (hb : DrawAt w b root t n) :
    Calls Tryd.prog 35 #[.pointer (some ⟨b, 0, none⟩)] w fun e w' => e = .returned (.int .i64 (t : Int)) ∧ w = w' := by
  have c65 := hb.taken hr
  clear hb hr
  go_enter Tryd.func35, Tryd.ntmps35
  go_wp2
  go_ret
  exact ⟨rfl, rfl⟩
theorem dnow_walk (b : Nat) (root : List Nat) (t n : Nat) (w : World) (hr : root.length = 32) (hb : DrawAt w b root t n) :
    Calls Tryd.prog 38 #[.pointer (some ⟨b, 0, none⟩)] w fun e w' => e = .returned (.int .i64 (n : Int)) ∧ w = w' := by
  have c66 := hb.now hr
  clear hb hr
  go_enter Tryd.func38, Tryd.ntmps38
  go_wp2
  go_ret
  exact ⟨rfl, rfl⟩

theorem drewN_keep (w : World) (m : Nat) : Keep (fun _ => True) w (w.drewN m) := (Keep.refl _ _).drewN m
set_option maxHeartbeats 1000000 in
theorem dtick_bad (b : Nat) (root : List Nat) (t n : Nat) (k : Int) (ev : Value) (w : World) (hk : k < 0 ∨ 1099511627776 - (n : Int) < k) (hn : n ≤ 1099511627776) (hr : root.length = 32) (hb : DrawAt w b root t n) (he : w.cell? ⟨0, 0, none⟩ = some ev) :
    Calls Tryd.prog 37 #[.pointer (some ⟨b, 0, none⟩), .int .i64 k] w fun e w' => e = .returned ev ∧ w = w' := by
  have c66 := hb.now hr
  clear hb hr
  have hk' : k < 0 ∨ (0 ≤ k ∧ 1099511627776 - (n : Int) < k) := by omega
  rcases hk' with hk | ⟨h0, h1⟩
  · go_enter Tryd.func37, Tryd.ntmps37
    go_wp2_with fail
    go_ret
    exact ⟨rfl, rfl⟩
  · go_enter Tryd.func37, Tryd.ntmps37
    go_wp2_with fail
    go_ret
    exact ⟨rfl, rfl⟩
set_option maxHeartbeats 1000000 in
theorem dtick_good (b : Nat) (root : List Nat) (t n k : Nat) (w : World) (hk : n + k ≤ 1099511627776) (hr : root.length = 32) (hb : DrawAt w b root t n) :
    Calls Tryd.prog 37 #[.pointer (some ⟨b, 0, none⟩), .int .i64 (k : Int)] w fun e w' => e = .returned .nilIface ∧ Keep (fun j => j ≠ b) w w' ∧ DrawAt w' b root t (n + k) := by
  have c66 := hb.now hr
  have f66 := hb.frozen 66
  have HB := hid hb
  have HR := hid hr
  clear hb hr
  go_enter Tryd.func37, Tryd.ntmps37
  go_wp2_with fail
  go_ret
  refine ⟨rfl, (Keep.refl _ _).setCell _ (by simp), ?_⟩
  have := HB.out.tick HR.out (n + k)
  rwa [Int.natCast_add] at this

set_option maxHeartbeats 1000000 in
theorem dpick_bad (b : Nat) (k : Int) (ev : Value) (w : World) (hk : k < 1) (he : w.cell? ⟨0, 0, none⟩ = some ev) :
    Calls Tryd.prog 33 #[.pointer (some ⟨b, 0, none⟩), .int .i64 k] w fun e w' => e = .returned (.tuple #[.int .i64 0, ev]) ∧ Keep (fun _ => True) w w' := by
  go_enter Tryd.func33, Tryd.ntmps33
  go_wp2_with fail
  go_quiet (fail)
  go_wp2_with fail
  go_ret2
  exact ⟨rfl, drewN_keep _ _⟩
set_option maxHeartbeats 1000000 in
theorem dpick_one (b : Nat) (w : World) :
    Calls Tryd.prog 33 #[.pointer (some ⟨b, 0, none⟩), .int .i64 1] w fun e w' => e = .returned (.tuple #[.int .i64 0, .nilIface]) ∧ w = w' := by
  go_enter Tryd.func33, Tryd.ntmps33
  go_wp2_with fail
  go_ret2
  exact ⟨rfl, rfl⟩
set_option maxRecDepth 100000 in
set_option maxHeartbeats 1000000 in
theorem dpick_walk (b : Nat) (root : List Nat) (t n k : Nat) (w : World) (ht : t < 576460752303423488) (hk1 : 2 ≤ k) (hk2 : k ≤ 9223372036854775807) (hk : DOk w b root) (hb : DrawAt w b root t n) :
    Calls Tryd.prog 33 #[.pointer (some ⟨b, 0, none⟩), .int .i64 (k : Int)] w fun e w' => e = .returned (.tuple #[.int .i64 ((Drw.pick root k t).1 : Nat), .nilIface]) ∧ Keep (fun j => j < w.heap.size ∧ j ≠ b) w w' ∧ DrawAt w' b root (Drw.pick root k t).2 n := by
  have HB := hid hb
  have HK := hid hk
  have hkk : ((k : Int) == 1) = false := by simp; omega
  clear hb hk
  obtain ⟨a, ha⟩ : ∃ a, 18446744073709551615 % k = a := ⟨_, rfl⟩
  have hak : a < k := by rw [← ha]; exact Nat.mod_lt _ (by omega)
  have e1 : (18446744073709551615 : Int) % (k : Int) = (a : Int) := by rw [← ha]; rfl
  obtain ⟨o, ho⟩ : ∃ o, (a + 1) % k = o := ⟨_, rfl⟩
  have hok : o < k := by rw [← ho]; exact Nat.mod_lt _ (by omega)
  have e2 : ((a : Int) + 1) % (k : Int) = (o : Int) := by rw [← ho, Int.natCast_emod]; rfl
  have HO := hid (show Drw.out k = o by unfold Drw.out; rw [ha, ho])
  clear ha ho
  go_enter Tryd.func33, Tryd.ntmps33
  go_wp2_with fail
  refine (dword_walk b root t n w (by omega) HK.out HB.out).mono ?_
  rintro e w1 ⟨rfl, k1, h1⟩
  obtain ⟨x0, hx0⟩ : ∃ x, Drw.wordN root t = x := ⟨_, rfl⟩
  have hxl : x0 < 18446744073709551616 := by
    rw [← hx0]
    exact Drw.num8_lt _ (fun x hx => blockOf_lt _ x (List.mem_of_mem_drop (List.mem_of_mem_take hx)))
  rw [hx0]
  have HX := hid (show Drw.pickTo root k 63 x0 (t + 1) = Drw.pick root k t by unfold Drw.pick; rw [hx0])
  have H1 := hid (And.intro k1 h1)
  clear hx0 k1 h1
  go_wp2_with fail
  try rw [e1]
  try rw [e2]
  clear e1 e2
  go_loopg [8, 25] 63 (fun j s8 s25 wr => ∃ i x tt : Nat, i + j = 63 ∧ s25 = .int .i64 (i : Int) ∧ s8 = .int .u64 (x : Int) ∧ x < 18446744073709551616 ∧ Hid (Drw.pickTo root k j x tt = Drw.pick root k t) ∧ tt ≤ t + 1 + i ∧ DrawAt wr b root tt n ∧ Keep (fun j => j < w.heap.size ∧ j ≠ b) w wr)
  case atStart => exact ⟨0, x0, t + 1, rfl, rfl, rfl, hxl, HX.out, Nat.le_refl _, H1.out.2, H1.out.1⟩
  case round =>
    obtain ⟨i, x, tt, hij, rfl, rfl, hx, hp, htt, hd, hk⟩ := hrel
    have HD := hid (And.intro hd hk)
    clear hd hk
    have c0 : (0 : Int) ≤ (x : Int) := by omega
    by_cases hi : i < 63
    · obtain ⟨j', rfl⟩ : ∃ j', gk = j' + 1 := ⟨gk - 1, by omega⟩
      have l0 : (i : Int) < 63 := by omega
      by_cases hq : x ≤ 18446744073709551615 - o
      · have t1 : decide ((x : Int) ≤ 18446744073709551615 - (o : Int)) = true := by simp; omega
        have HF := hid (show Drw.pick root k t = (x % k, tt) by rw [← hp.out, Drw.pickTo, HO.out, if_pos hq])
        go_wp2_with fail
        go_ret2
        have ew : wrap64 ((x : Int) % (k : Int)) = ((x % k : Nat) : Int) := by
          have h1 : x % k < k := Nat.mod_lt _ (by omega)
          rw [Int.natCast_emod]; unfold wrap64; have h2 : ((x : Int) % (k : Int)) = ((x % k : Nat) : Int) := (Int.natCast_emod x k).symm
          omega
        rw [HF.out, ew]
        exact ⟨rfl, HD.out.2, HD.out.1⟩
      · have t1 : decide ((x : Int) ≤ 18446744073709551615 - (o : Int)) = false := by simp; omega
        have HF : Hid (Drw.pickTo root k j' (Drw.wordN root tt) (tt + 1) = Drw.pick root k t) := by
          rw [← hp.out, Drw.pickTo, HO.out, if_neg hq]; exact hid rfl
        clear hq
        go_wp2_with fail
        refine (dword_walk b root tt n wr (by omega) (HK.out.keep' HD.out.2) HD.out.1).mono ?_
        rintro e w2 ⟨rfl, k2, h2⟩
        obtain ⟨x2, hx2⟩ : ∃ x, Drw.wordN root tt = x := ⟨_, rfl⟩
        have hxl2 : x2 < 18446744073709551616 := by
          rw [← hx2]
          exact Drw.num8_lt _ (fun x hx => blockOf_lt _ x (List.mem_of_mem_drop (List.mem_of_mem_take hx)))
        rw [hx2] at HF ⊢
        have H2 := hid (And.intro (HD.out.2.trans (k2.mono (fun j h => ⟨Nat.lt_of_lt_of_le h.1 HD.out.2.size, h.2⟩))) h2)
        clear k2 h2 hx2
        go_wp2_with fail
        go_roundg j'
        case measure => omega
        case rel => exact ⟨i + 1, x2, tt + 1, by omega, by go_num, rfl, hxl2, HF, by omega, H2.out.2, H2.out.1⟩
    · obtain rfl : i = 63 := by omega
      obtain rfl : gk = 0 := by omega
      have HF := hid (show Drw.pick root k t = (x % k, tt) by rw [← hp.out, Drw.pickTo])
      go_wp2_with fail
      go_ret2
      have ew : wrap64 ((x : Int) % (k : Int)) = ((x % k : Nat) : Int) := by
        have h1 : x % k < k := Nat.mod_lt _ (by omega)
        rw [Int.natCast_emod]; unfold wrap64; have h2 : ((x : Int) % (k : Int)) = ((x % k : Nat) : Int) := (Int.natCast_emod x k).symm
        omega
      rw [HF.out, ew]
      exact ⟨rfl, HD.out.2, HD.out.1⟩
end Go.Proofs.YtjknjjcdgniodaaDoor
