/-
  Step by step: the reference's words by number.
-/
import Derived.Test.YtjknjjcdgniodaaDoorRefOf
import Derived.Test.YtjknjjcdgniodaaDoorDrawNumbersW
namespace Go.Proofs.YtjknjjcdgniodaaDoor
open Go.RowKit Go.Proofs.Mem

theorem num8_step (u x : Nat) (hx : x < 256) : IntKind.u64.wrap (IntKind.u64.wrap (256 * (u : Int)) + (x : Int)) = (((u * 256 % 18446744073709551616) ||| x : Nat) : Int) := by
  have h1 : (u * 256 % 18446744073709551616) ||| x = u * 256 % 18446744073709551616 + x := nat_join 8 _ _ (by omega) (by omega)
  rw [h1, IntKind.wrap_u64, IntKind.wrap_u64]
  omega

set_option maxRecDepth 100000 in
set_option maxHeartbeats 2000000 in
theorem refword_walk (hb : Nat) (u : Value) (root : List Nat) (n : Nat) (w : World) (p : Nat → Prop) (hr : root.length = 32) (hx : ∀ x ∈ root, x < 256) (hn : n < 4611686018427387904) (hW : WordsAt w hb Sha.St.new.ws Sha.turns) (hu : Cells w p u (ints .u8 root)) :
    Calls Tryd.prog 40 #[.pointer (some ⟨hb, 0, none⟩), u, .int .i64 (n : Int)] w fun e w' => e = .returned (.int .u64 (Drw.wordN root n : Nat)) ∧ Keep (· < w.heap.size) w w' := by
  have HW := hid hW
  have Hu := hid (hu.lt.mono (fun _ h => h.1))
  have HX := hid hx
  have HR := hid hr
  have hbz := hW.lt
  clear hW hu hx hr
  obtain ⟨q, hq⟩ : ∃ q, n / 4 = q := ⟨_, rfl⟩
  have q1 : (n : Int) / 4 = (q : Int) := by omega
  obtain ⟨r, hr⟩ : ∃ r, n % 4 = r := ⟨_, rfl⟩
  have r1 : (n : Int) % 4 = (r : Int) := by omega
  have hr4 : r < 4 := by omega
  have HQ := hid (And.intro hq hr)
  clear hq hr
  obtain ⟨i0, hi0, hz0, hs0, hb0⟩ := info_parts (show (Tryd.prog.info? 5).map (fun i => (i.zero, i.size, i.bytes)) = some (some (.int .u8 0), 1, 1) by kernel_rfl)
  have HA := hid (append_first (P := Tryd.prog) 22 5 i0 (.int .u8 0) 1 Tryd.underlying22 hi0 hz0 hs0 hb0 rfl w 22 _ (ints .u8 root) Hu.out (ints_one _ _) (by rw [ints_length, HR.out]; decide))
  go_enter Tryd.func40, Tryd.ntmps40
  go_wp2_with (at_builtin; refine wpList_app rfl (.tmp 12) (.tmp 13) 22 22 rfl _ HA.out ?_; rintro v1 w1 ⟨hown, hg, hz1⟩)
  go_loopg [7, 8] 8 (fun k s7 s8 wr => ∃ (j : Nat) (z : Int), j + k = 8 ∧ s8 = .int .i64 z ∧ Hid (z = 7 - (j : Int)) ∧ z ≤ 7 ∧ wr.ownsRow w.heap.size 5 1 s7 (ints .u8 (root ++ (Sha.be8 q).take j)).length (ints .u8 (root ++ (Sha.be8 q).take j)) ∧ Keep (· < w.heap.size) w wr ∧ w.heap.size ≤ wr.heap.size)
  case atStart => exact ⟨0, 7, rfl, rfl, rfl, by decide, by rw [List.take_zero, List.append_nil]; exact hown, hg, hz1⟩
  case round =>
    clear hown hg hz1 HA
    obtain ⟨j, z, hj, rfl, hz, hz7, hown, hk, hzr⟩ := hrel
    have HO := hid (And.intro hown hk)
    clear hown hk
    by_cases hj8 : j < 8
    · have hz0' : 0 ≤ z := by rw [hz.out]; omega
      obtain ⟨m, rfl⟩ : ∃ m : Nat, z = (m : Int) := ⟨z.toNat, by omega⟩
      have hmj : Hid (m = 7 - j) := by have := hz.out; show m = _; omega
      have hm7 : m ≤ 7 := by omega
      have t1 : decide ((0 : Int) ≤ (m : Int)) = true := by simp
      obtain ⟨y, hy⟩ : ∃ y, (Sha.be8 q).getD j 0 = y := ⟨_, rfl⟩
      have ey : (q : Int) / 2 ^ (8 * m) % 256 = (y : Int) := by
        have h := be8_byte q j _ (8 * (m : Int)) y rfl hj8 (by have := hmj.out; omega) hy
        rwa [show (8 * (m : Int)).toNat = 8 * m by omega] at h
      have HY := hid hy
      have hlen : (ints .u8 (root ++ (Sha.be8 q).take j)).length ≤ 40 := by rw [ints_length, List.length_append, HR.out, List.length_take]; omega
      have HA := hid (append_one (P := Tryd.prog) 22 5 i0 (.int .u8 0) 1 Tryd.underlying22 hi0 hz0 hs0 hb0 rfl wr 22 w.heap.size _ (.int .u8 (y : Int)) _ HO.out.1 rfl (by omega) (by omega) hzr)
      clear hy hlen
      go_wp2_with (at_builtin; refine wpList_app rfl (.tmp 19) (.tmp 27) 22 22 rfl _ HA.out ?_; rintro v1 w1 ⟨hown1, hk1, hz1⟩)
      go_roundg (gk - 1)
      case measure => omega
      case rel =>
        refine ⟨j + 1, (m : Int) - 1, by omega, rfl, ?_, by omega, ?_, HO.out.2.trans hk1, hz1⟩
        · have := hmj.out; show _ = _; omega
        · rw [← take_snoc' (Sha.be8 q) j hj8, HY.out, ← List.append_assoc, ints_append]
          exact hown1
    · obtain rfl : j = 8 := by omega
      have t1 : decide ((0 : Int) ≤ z) = false := by have := hz.out; simp; omega
      have hown := HO.out.1
      rw [List.take_of_length_le (by exact Nat.le_refl 8)] at hown
      have HO2 := hid (And.intro hown HO.out.2)
      clear hown HO
      go_wp2_with fail
      refine (refof_walk hb _ (root ++ Sha.be8 q) wr _ (by rw [List.length_append, HR.out, be8_length]; decide) (fun x hx => by
        rcases List.mem_append.1 hx with h | h
        · exact HX.out x h
        · exact be8_lt h) (HW.out.keep HO2.out.2 (fun j _ h => h)) (owns_cells HO2.out.1)).mono ?_
      rintro e w2 ⟨v2, rfl, k2, h2⟩
      obtain ⟨B, hB⟩ : ∃ B, Drw.blockOf root q = B := ⟨_, rfl⟩
      have hB' : Sha.of (root ++ Sha.be8 q) = B := hB
      rw [hB'] at h2
      have hBl : B.length = 32 := by rw [← hB]; exact blockOf_length HX.out q
      have hBx : ∀ x ∈ B, x < 256 := by rw [← hB]; exact blockOf_lt q
      obtain ⟨xs, hxs⟩ : ∃ xs, (B.drop (r * 8)).take 8 = xs := ⟨_, rfl⟩
      have hxl : xs.length = 8 := by rw [← hxs, List.length_take, List.length_drop, hBl]; omega
      have hxb : ∀ x ∈ xs, x < 256 := fun x hx => hBx x (by rw [← hxs] at hx; exact List.mem_of_mem_drop (List.mem_of_mem_take hx))
      obtain ⟨blk, off, cp, rfl, hle, hcap, hp, hcl⟩ := h2.at_ (by rw [ints_length, hBl]; decide)
      rw [ints_length, hBl] at hle hcl ⊢
      have hcell : ∀ i, i < 8 → w2.cell? ⟨blk, off + (8 * r + i), none⟩ = some (.int .u8 (xs.getD i 0 : Nat)) := by
        intro i hi
        rw [hcl _ (by omega), ints_get _ _ _ (by rw [hBl]; omega), ← hxs]
        congr 3
        rw [List.getD_eq_getElem?_getD, List.getD_eq_getElem?_getD, List.getElem?_take, if_pos hi, List.getElem?_drop, Nat.mul_comm 8 r]
      have HCL := hid hcell
      have HS := hid (show Drw.wordN root n = Drw.num8 xs by unfold Drw.wordN; rw [HQ.out.1, HQ.out.2, hB, hxs])
      have HXB := hid hxb
      have H2 := hid (HO2.out.2.trans (k2.mono (fun k h => Nat.lt_of_lt_of_le h hzr)))
      clear k2 h2 hB hB' hBl hBx hxs hxb hcl hcell t1
      go_wp2_with fail
      go_loopg [10, 11] 8 (fun k s10 s11 wr => ∃ i u : Nat, i + k = 8 ∧ s11 = .int .i64 (i : Int) ∧ s10 = .int .u64 (u : Int) ∧ Hid (u = Drw.num8 (xs.take i)) ∧ u < 18446744073709551616 ∧ wr = w2)
      case atStart => exact ⟨0, 0, rfl, rfl, rfl, rfl, by decide, rfl⟩
      case round =>
        obtain ⟨i, u, hi, rfl, rfl, hu, hul, rfl⟩ := hrel
        by_cases hi8 : i < 8
        · obtain ⟨x, hx⟩ : ∃ x, xs.getD i 0 = x := ⟨_, rfl⟩
          obtain ⟨m, hm⟩ : ∃ m, 8 * r + i = m := ⟨_, rfl⟩
          have cx : wr.cell? ⟨blk, off + m, none⟩ = some (.int .u8 (x : Nat)) := by
            have := HCL.out i hi8
            rwa [hm, hx] at this
          have hxb : x < 256 := by rw [← hx]; exact HXB.out _ (by rw [List.getD_eq_getElem?_getD, List.getElem?_eq_getElem (by omega)]; exact List.getElem_mem _)
          have em : 8 * (r : Int) + (i : Int) = (m : Int) := by omega
          have m1 : (m : Int) < 32 := by omega
          have es := num8_step u x hxb
          have HXX := hid hx
          have l0 : (i : Int) < 8 := by omega
          clear hx hm
          go_wp2_with fail
          go_roundg (gk - 1)
          case measure => omega
          case rel =>
            refine ⟨i + 1, _, by omega, by go_num, rfl, ?_, Drw.or_lt _ _ (Nat.mod_lt _ (by decide)) (by omega), rfl⟩
            show _ = Drw.num8 (xs.take (i + 1))
            rw [← take_snoc' xs i (by omega), Drw.num8_snoc, ← hu.out, HXX.out]
        · obtain rfl : i = 8 := by omega
          have e8 := hu.out
          rw [List.take_of_length_le (by omega)] at e8
          have HE := hid e8
          clear e8
          go_wp2_with fail
          go_ret
          refine ⟨?_, H2.out⟩
          show Ending.returned (Value.int .u64 (u : Int)) = _
          rw [HS.out, ← HE.out]
end Go.Proofs.YtjknjjcdgniodaaDoor
