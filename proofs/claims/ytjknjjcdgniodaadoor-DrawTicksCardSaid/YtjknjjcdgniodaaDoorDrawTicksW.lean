/-
  Step by step: the statement 'DrawTicks'.
-/
import Derived.Test.YtjknjjcdgniodaaDoorAlive4
import Derived.Test.YtjknjjcdgniodaaDoorErrs
namespace Go.Proofs.YtjknjjcdgniodaaDoor
open Go.RowKit Go.Proofs.Mem

set_option maxRecDepth 100000 in
set_option maxHeartbeats 2000000 in
theorem drawTicks_walk (v : Value) (xs : List Int) (a : Addr) (w : World) (p : Nat → Prop) (hT : TurnsAt w) (he : ErrAt w 0 a) (hv : Cells w p v (xs.map (Value.int .i64))) :
    Calls Tryd.prog 11 #[v] w fun e w' => e = .returned (.bool true) ∧ Keep (· < w.heap.size) w w' := by
  have Hv := hid (hv.lt.mono (fun _ h => h.1))
  have HT := hid hT
  have HE := hid he
  have l1 := hv.len_le
  rw [List.length_map] at l1
  clear hv hT he
  obtain ⟨a1, n1, c1, rfl, e1, m1, q1, hcc⟩ := Hv.out
  rw [List.length_map] at e1
  subst e1
  have q1' : c1 ≤ 9223372036854775807 := by simpa [maxLen] using q1
  have HCC := hid hcc
  clear q1 hcc
  go_enter Tryd.func11, Tryd.ntmps11
  go_wp2_with fail
  refine (alive4_walk w HT.out).mono ?_
  rintro e w1 ⟨rfl, k1⟩
  have H1 := hid k1
  clear k1
  go_wp2_with fail
  refine (drawnew_walk _ [] w1 (fun _ => True) (by simp) (by simp) (HT.out.keep H1.out HT.out.lt) (Cells.nil _ _)).mono ?_
  rintro e w2 ⟨b, rfl, hwb, k2, h2⟩
  have hz1 := H1.out.size
  have H2 := hid (And.intro (H1.out.trans (k2.mono (fun k h => Nat.lt_of_lt_of_le h hz1))) h2)
  have hgb : w.heap.size ≤ b := Nat.le_trans hz1 hwb
  have hgt := HT.out.lt
  clear k2 h2 H1
  go_wp2_with fail
  obtain ⟨R, hR⟩ : ∃ R, Sha.of [] = R := ⟨_, rfl⟩
  have hRl : R.length = 32 := by rw [← hR]; exact of_length (by simp)
  rw [hR] at H2
  clear hR
  go_loopg [4, 13] xs.length (fun k s4 s13 wr => ∃ i n : Nat, i + k = xs.length ∧ s13 = .int .i64 (i : Int) ∧ s4 = .int .i64 (n : Int) ∧ n ≤ 1099511627776 ∧ DrawAt wr b R 0 n ∧ Keep (· < w.heap.size) w wr)
  case atStart => exact ⟨0, 0, by omega, rfl, rfl, by decide, H2.out.2, H2.out.1⟩
  case round =>
    obtain ⟨i, n, hi, rfl, rfl, hn, hd, hk⟩ := hrel
    have HH := hid (And.intro hd hk)
    clear hd hk
    by_cases hlt : i < xs.length
    · obtain ⟨x, hx⟩ : ∃ x, xs.getD i 0 = x := ⟨_, rfl⟩
      obtain ⟨blk, off, rfl, hp, hc⟩ := HCC.out (by omega)
      have cx : wr.cell? ⟨blk, off + i, none⟩ = some (.int .i64 x) := by
        rw [HH.out.2.cell (x := ⟨blk, off + i, none⟩) hp, hc i hlt, List.getElem?_map, List.getElem?_eq_getElem hlt, ← hx, List.getD_eq_getElem?_getD, List.getElem?_eq_getElem hlt]
        rfl
      have l0 : (i : Int) < (xs.length : Int) := by omega
      clear hc hx
      by_cases h100 : 100 < i
      · have t1 : decide ((100 : Int) < (i : Int)) = true := by simp; omega
        go_wp2_with fail
        go_ret
        exact ⟨rfl, HH.out.2⟩
      · have t1 : decide ((100 : Int) < (i : Int)) = false := by simp; omega
        by_cases hok : 0 ≤ x ∧ x ≤ 1099511627776 - (n : Int)
        · obtain ⟨y, rfl⟩ : ∃ y : Nat, x = (y : Int) := ⟨x.toNat, by omega⟩
          have t2 : decide ((0 : Int) ≤ (y : Int)) = true := by simp
          have t3 : decide ((y : Int) ≤ 1099511627776 - (n : Int)) = true := by simp; omega
          have hny : n + y ≤ 1099511627776 := by omega
          clear hok
          go_wp2_with fail
          refine (dtick_good b R 0 n y wr hny hRl HH.out.1).mono ?_
          rintro e w3 ⟨rfl, k3, h3⟩
          have H3 := hid (And.intro h3 (HH.out.2.trans (k3.mono (fun k h => by omega))))
          clear k3 h3
          go_wp2_with fail
          refine (dnow_walk b R 0 (n + y) w3 hRl H3.out.1).mono ?_
          rintro e w4 ⟨rfl, rfl⟩
          have e2 : (n : Int) + (y : Int) = ((n + y : Nat) : Int) := by omega
          obtain ⟨m, hm⟩ : ∃ m, n + y = m := ⟨_, rfl⟩
          rw [hm] at e2 H3 hny
          rw [hm]
          clear hm
          go_wp2_with fail
          refine (dtaken_walk b R 0 m w3 hRl H3.out.1).mono ?_
          rintro e w4 ⟨rfl, rfl⟩
          go_wp2_with fail
          go_roundg (gk - 1)
          case measure => omega
          case rel => exact ⟨i + 1, m, by omega, by go_num, rfl, hny, H3.out.1, H3.out.2⟩
        · have hbad : x < 0 ∨ 1099511627776 - (n : Int) < x := by omega
          have HB := hid hbad
          have ce : wr.cell? ⟨0, 0, none⟩ = some (.iface 125 (.pointer (some a))) := (HE.out.keep HH.out.2 HE.out.lt HE.out.blt).cell
          have CE := hid ce
          clear hbad ce
          by_cases h0 : 0 ≤ x
          · have t2 : decide ((0 : Int) ≤ x) = true := by simpa using h0
            have t3 : decide (x ≤ 1099511627776 - (n : Int)) = false := by simp; omega
            clear hok
            go_wp2_with fail
            refine (dtick_bad b R 0 n x _ wr HB.out hn hRl HH.out.1 CE.out).mono ?_
            rintro e w3 ⟨rfl, rfl⟩
            go_wp2_with fail
            refine (dnow_walk b R 0 n wr hRl HH.out.1).mono ?_
            rintro e w4 ⟨rfl, rfl⟩
            go_wp2_with fail
            refine (dtaken_walk b R 0 n wr hRl HH.out.1).mono ?_
            rintro e w4 ⟨rfl, rfl⟩
            go_wp2_with fail
            go_roundg (gk - 1)
            case measure => omega
            case rel => exact ⟨i + 1, n, by omega, by go_num, rfl, hn, HH.out.1, HH.out.2⟩
          · have t2 : decide ((0 : Int) ≤ x) = false := by simp; omega
            clear hok
            go_wp2_with fail
            refine (dtick_bad b R 0 n x _ wr HB.out hn hRl HH.out.1 CE.out).mono ?_
            rintro e w3 ⟨rfl, rfl⟩
            go_wp2_with fail
            refine (dnow_walk b R 0 n wr hRl HH.out.1).mono ?_
            rintro e w4 ⟨rfl, rfl⟩
            go_wp2_with fail
            refine (dtaken_walk b R 0 n wr hRl HH.out.1).mono ?_
            rintro e w4 ⟨rfl, rfl⟩
            go_wp2_with fail
            go_roundg (gk - 1)
            case measure => omega
            case rel => exact ⟨i + 1, n, by omega, by go_num, rfl, hn, HH.out.1, HH.out.2⟩
    · obtain rfl : i = xs.length := by omega
      go_wp2_with fail
      go_ret
      exact ⟨rfl, HH.out.2⟩
end Go.Proofs.YtjknjjcdgniodaaDoor
