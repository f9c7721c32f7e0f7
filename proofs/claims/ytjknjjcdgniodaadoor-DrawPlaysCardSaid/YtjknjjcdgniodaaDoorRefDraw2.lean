/-
  Step by step: the reference's pick.
-/
import Derived.Test.YtjknjjcdgniodaaDoorRefDraw
namespace Go.Proofs.YtjknjjcdgniodaaDoor
open Go.RowKit Go.Proofs.Mem

/-- what is left of a pick: with j more words. -/
def Drw.left (root : List Nat) (k j x tt : Nat) : Nat × Nat := match j with
  | 0 => (x % k, tt)
  | j' + 1 => Drw.pickTo root k j' (Drw.wordN root tt) (tt + 1)

set_option maxRecDepth 100000 in
set_option maxHeartbeats 2000000 in
theorem mpick_walk (wm : World) (m hb : Nat) (vr : Value) (root : List Nat) (t n k : Nat) (w : World) (ht : t < 576460752303423488) (hk1 : 2 ≤ k) (hk2 : k ≤ 9223372036854775807) (hB : Born wm m hb vr root) (hk : Keep (fun j => hb ≤ j ∧ j < m) wm w) (hm : ModelAt w m hb vr t n) :
    Calls Tryd.prog 43 #[.pointer (some ⟨m, 0, none⟩), .int .i64 (k : Int)] w fun e w' => e = .returned (.tuple #[.int .i64 ((Drw.pick root k t).1 : Nat), .int .i64 0]) ∧ Keep (fun j => j < w.heap.size ∧ j ≠ m) w w' ∧ ModelAt w' m hb vr (Drw.pick root k t).2 n := by
  have HM := hid hm
  have HK := hid hk
  have HB := hid hB
  have hml := hm.lt
  have hkk : ((k : Int) == 1) = false := by simp; omega
  clear hm hk hB
  go_enter Tryd.func43, Tryd.ntmps43
  go_wp2_with fail
  go_loopg [6, 7] 64 (fun j s6 s7 wr => ∃ i x tt : Nat, i + j = 64 ∧ s7 = .int .i64 (i : Int) ∧ s6 = .int .u64 (x : Int) ∧ x < 18446744073709551616 ∧ Hid (Drw.left root k j x tt = Drw.pick root k t) ∧ tt ≤ t + i ∧ ModelAt wr m hb vr tt n ∧ Keep (fun j => j < w.heap.size ∧ j ≠ m) w wr)
  case atStart => exact ⟨0, 0, t, rfl, rfl, rfl, by decide, rfl, Nat.le_refl _, HM.out, Keep.refl _ _⟩
  case round =>
    obtain ⟨i, x, tt, hij, rfl, rfl, hx, hp, htt, hd, hk⟩ := hrel
    have HD := hid (And.intro hd hk)
    clear hd hk
    by_cases hi : i < 64
    · obtain ⟨j', rfl⟩ : ∃ j', gk = j' + 1 := ⟨gk - 1, by omega⟩
      have l0 : (i : Int) < 64 := by omega
      go_wp2_with fail
      refine (mnext_walk wm m hb vr root tt n wr (by omega) HB.out (HK.out.trans (HD.out.2.mono (fun k h => by omega))) HD.out.1).mono ?_
      rintro e w2 ⟨rfl, k2, h2⟩
      obtain ⟨x2, hx2⟩ : ∃ x, Drw.wordN root tt = x := ⟨_, rfl⟩
      have hxl2 : x2 < 18446744073709551616 := by
        rw [← hx2]
        exact Drw.num8_lt _ (fun x hx => blockOf_lt _ x (List.mem_of_mem_drop (List.mem_of_mem_take hx)))
      have HP : Hid (Drw.pickTo root k j' x2 (tt + 1) = Drw.pick root k t) := by rw [← hx2]; exact hp
      rw [hx2]
      have H2 := hid (And.intro (HD.out.2.trans (k2.mono (fun j h => ⟨Nat.lt_of_lt_of_le h.1 HD.out.2.size, h.2⟩))) h2)
      clear k2 h2 hx2 hp
      have HA := hid (Drw.accept (x := x2) hk1 hk2)
      obtain ⟨r, hr⟩ : ∃ r, x2 % k = r := ⟨_, rfl⟩
      have hrx : r ≤ x2 := by rw [← hr]; exact Nat.mod_le _ _
      have hrk : r < k := by rw [← hr]; exact Nat.mod_lt _ (by omega)
      have e1 : (x2 : Int) % (k : Int) = (r : Int) := by rw [← hr]; rfl
      have HR := hid hr
      have c0 : (0 : Int) ≤ (x2 : Int) := by omega
      clear hr
      have hkr : (k : Int) - 1 ≤ 9223372036854775806 := by omega
      go_upto_region 11 with (fail)
      obtain ⟨f, hf⟩ : ∃ f, x2 - r = f := ⟨_, rfl⟩
      rw [show (x2 : Int) - (r : Int) = (f : Int) by omega]
      have hfl : f < 18446744073709551616 := by omega
      have HF := hid hf
      clear hf
      by_cases hq : f + (k - 1) < 18446744073709551616
      · have t1 : decide ((f : Int) ≤ (f : Int) + ((k : Int) - 1)) = true := by simp; omega
        have HV := hid (show Drw.pick root k t = (r, tt + 1) by
          have hacc := HA.out.2 (by rw [HR.out, HF.out]; exact hq)
          rw [← HP.out]
          cases j' with
          | zero => rw [Drw.pickTo, HR.out]
          | succ j'' => rw [Drw.pickTo, if_pos hacc, HR.out])
        go_wp2_with fail
        go_ret2
        rw [HV.out]
        exact ⟨rfl, H2.out.1, H2.out.2⟩
      · have e2 : IntKind.u64.wrap ((f : Int) + ((k : Int) - 1)) = (f : Int) + ((k : Int) - 1) - 18446744073709551616 := by
          rw [IntKind.wrap_u64]; omega
        have t1 : decide ((f : Int) ≤ (f : Int) + ((k : Int) - 1) - 18446744073709551616) = false := by simp; omega
        have HV := hid (show Drw.left root k j' x2 (tt + 1) = Drw.pick root k t by
          have hacc : ¬ x2 ≤ 18446744073709551615 - Drw.out k := fun h => hq (by have := HA.out.1 h; rwa [HR.out, HF.out] at this)
          rw [← HP.out]
          cases j' with
          | zero => rfl
          | succ j'' => rw [Drw.left, Drw.pickTo, if_neg hacc])
        clear hq
        go_wp2_with fail
        go_roundg j'
        case measure => omega
        case rel => exact ⟨i + 1, x2, tt + 1, by omega, by go_num, rfl, hxl2, HV, by omega, H2.out.2, H2.out.1⟩
    · obtain rfl : i = 64 := by omega
      obtain rfl : gk = 0 := by omega
      obtain ⟨r, hr⟩ : ∃ r, x % k = r := ⟨_, rfl⟩
      have hrk : r < k := by rw [← hr]; exact Nat.mod_lt _ (by omega)
      have e1 : (x : Int) % (k : Int) = (r : Int) := by rw [← hr]; rfl
      have c0 : (0 : Int) ≤ (x : Int) := by omega
      have HV := hid (show Drw.pick root k t = (r, tt) by rw [← hp.out, ← hr]; rfl)
      clear hr hp
      go_wp2_with fail
      go_ret2
      rw [HV.out]
      exact ⟨rfl, HD.out.2, HD.out.1⟩
end Go.Proofs.YtjknjjcdgniodaaDoor
