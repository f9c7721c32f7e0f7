/-
  Step by step: the statement 'DrawNumbers'.
-/
import Derived.Test.YtjknjjcdgniodaaDoorAlive4
import Derived.Test.YtjknjjcdgniodaaDoorMem5
import Derived.Test.YtjknjjcdgniodaaDoorErrs
namespace Go.Proofs.Drw
theorem pow_mod (b : Nat) (hb : b ≤ 63) : 18446744073709551615 % 2 ^ b = 2 ^ b - 1 := by
  have h : ∀ b, b < 64 → 18446744073709551615 % 2 ^ b = 2 ^ b - 1 := by decide
  exact h b (by omega)
theorem out_pow (b : Nat) (hb : b ≤ 63) : out (2 ^ b) = 0 := by
  have hp : 0 < 2 ^ b := Nat.two_pow_pos b
  unfold out
  rw [pow_mod b hb, Nat.sub_add_cancel hp, Nat.mod_self]
theorem pick_pow (root : List Nat) (b t : Nat) (hb : b ≤ 63) (hw : wordN root t < 18446744073709551616) : pick root (2 ^ b) t = (wordN root t % 2 ^ b, t + 1) := by
  unfold pick
  rw [pickTo, out_pow b hb, if_pos (by omega)]
end Go.Proofs.Drw
namespace Go.Proofs.YtjknjjcdgniodaaDoor
open Go.RowKit Go.Proofs.Mem

/-- 'int(uint(more) % a)'. -/
theorem mod_num (more : Int) (a : Nat) (h : 0 < a) (ha : a < 4611686018427387904) : ∃ r : Nat, wrap64 ((IntKind.u64.wrap more) % (a : Int)) = (r : Int) ∧ r < a := by
  have h0 : 0 ≤ IntKind.u64.wrap more := by rw [IntKind.wrap_u64]; omega
  have h1 : 0 ≤ IntKind.u64.wrap more % (a : Int) := Int.emod_nonneg _ (by omega)
  have h2 : IntKind.u64.wrap more % (a : Int) < (a : Int) := Int.emod_lt_of_pos _ (by omega)
  refine ⟨(IntKind.u64.wrap more % (a : Int)).toNat, ?_, by omega⟩
  rw [Int.toNat_of_nonneg h1]
  unfold wrap64
  omega
theorem mod_t (more : Int) (a : Nat) (h : 0 < a) (ha : a < 4611686018427387904) : ∃ r : Nat, wrap64 ((IntKind.u64.wrap more).tmod (a : Int)) = (r : Int) ∧ r < a := by
  have h0 : 0 ≤ IntKind.u64.wrap more := by rw [IntKind.wrap_u64]; omega
  rw [Int.tmod_eq_emod_of_nonneg h0]
  exact mod_num more a h ha
theorem word_lt {root : List Nat} (n : Nat) : Drw.wordN root n < 18446744073709551616 := Drw.num8_lt _ (fun x hx => blockOf_lt _ x (List.mem_of_mem_drop (List.mem_of_mem_take hx)))

set_option maxRecDepth 100000 in
set_option maxHeartbeats 2000000 in
theorem drawNumbers_walk0 (u : Value) (seed : List Nat) (c0 b0 : Int) (w : World) (p : Nat → Prop) (hx : ∀ x ∈ seed, x < 256) (hT : TurnsAt w) (hu : Cells w p u (ints .u8 seed)) :
    Calls Tryd.prog 10 #[u, .int .i64 c0, .int .i64 b0] w fun e w' => e = .returned (.bool true) ∧ Keep (· < w.heap.size) w w' := by
  have Hu := hid (hu.lt.mono (fun _ h => h.1))
  have HT := hid hT
  have l1 := hu.len_le
  rw [ints_length] at l1
  clear hu hT
  obtain ⟨a1, n1, c1, rfl, e1, m1, q1, _⟩ := Hu.out
  rw [ints_length] at e1
  subst e1
  have q1' : c1 ≤ 9223372036854775807 := by simpa [maxLen] using q1
  clear q1
  go_enter Tryd.func10, Tryd.ntmps10
  go_wp2_with fail
  refine (alive4_walk w HT.out).mono ?_
  rintro e w1 ⟨rfl, k1⟩
  have H1 := hid k1
  clear k1
  by_cases g1 : 1000 < seed.length
  · have g1' : decide ((1000 : Int) < (seed.length : Int)) = true := by simp; omega
    go_wp2_with fail
    go_ret
    exact ⟨rfl, H1.out⟩
  have g1' : decide ((1000 : Int) < (seed.length : Int)) = false := by simp; omega
  go_wp2_with fail
  obtain ⟨c, hc, hc30⟩ : ∃ r : Nat, wrap64 ((IntKind.u64.wrap c0).tmod 30) = (r : Int) ∧ r < 30 := mod_t c0 30 (by decide) (by decide)
  obtain ⟨b', hb, hb60⟩ : ∃ r : Nat, wrap64 ((IntKind.u64.wrap b0).tmod 60) = (r : Int) ∧ r < 60 := mod_t b0 60 (by decide) (by decide)
  obtain ⟨b, hb1⟩ : ∃ b, b = 1 + b' := ⟨_, rfl⟩
  have eb : wrap64 (1 + (b' : Int)) = (b : Int) := by unfold wrap64; omega
  obtain ⟨cc, hcc⟩ : ∃ cc, cc = c + 1 := ⟨_, rfl⟩
  have ec : wrap64 ((c : Int) + 1) = (cc : Int) := by unfold wrap64; omega
  rw [hc, hb, eb, ec]
  have hb2 : b ≤ 60 := by omega
  have hb3 : 1 ≤ b := by omega
  have hc2 : cc ≤ 30 := by omega
  have HCC := hid hcc
  clear hc hb hb1 eb ec hb60 hcc
  refine (dwords_walk _ seed 0 cc w1 _ hx (by omega) (by decide) (by omega) (HT.out.keep H1.out HT.out.lt) (Hu.out.keep H1.out (fun _ h => h))).mono ?_
  rintro e w2 ⟨vl, rfl, k2, hl⟩
  have hz1 := H1.out.size
  have H2 := hid (H1.out.trans (k2.mono (fun k h => Nat.lt_of_lt_of_le h hz1)))
  have hl' := hl.lt.mono (fun k h => (show k < w2.heap.size from h.1))
  obtain ⟨blk, off, cp, rfl, hle, hcap, hp, hcl⟩ := hl'.at_ (by rw [ints_length, wordsN_length, HCC.out]; omega)
  rw [ints_length, wordsN_length] at hle hcl ⊢
  have HL := hid hcl
  have e2 : (c : Int) + 1 = (cc : Int) := by have := HCC.out; omega
  clear k2 hl hl' hcl H1
  go_wp2_with fail
  refine (drawnew_walk _ seed w2 _ hx (by omega) (HT.out.keep H2.out HT.out.lt) (Hu.out.keep H2.out (fun _ h => h))).mono ?_
  rintro e w3 ⟨d, rfl, hwd, k3, h3⟩
  have hz2 := H2.out.size
  have H3 := hid (And.intro (H2.out.trans (k3.mono (fun k h => Nat.lt_of_lt_of_le h hz2))) (And.intro (k3.mono (fun k (h : k < w2.heap.size) => h)) h3))
  clear k3 h3
  obtain ⟨R, hR⟩ : ∃ R, Sha.of seed = R := ⟨_, rfl⟩
  have hRl : R.length = 32 := by rw [← hR]; exact of_length hx
  have hRb : ∀ x ∈ R, x < 256 := by rw [← hR]; exact of_lt
  rw [hR] at HL H3
  have HRB := hid hRb
  have hgt := HT.out.lt
  clear hR hRb
  go_wp2_with fail
  go_loopg [45] c (fun k s45 wr => ∃ i : Nat, i + k = c ∧ s45 = .int .i64 (i : Int) ∧ DrawAt wr d R i 0 ∧ Keep (· < w2.heap.size) w2 wr)
  case atStart => exact ⟨0, by omega, rfl, H3.out.2.2, H3.out.2.1⟩
  case round =>
    obtain ⟨i, hi, rfl, hd, hk⟩ := hrel
    have HH := hid (And.intro hd hk)
    have hzr := hk.size
    clear hd hk
    have hcell : ∀ j, j < cc → wr.cell? ⟨blk, off + j, none⟩ = some (.int .u64 (Drw.wordN R j : Nat)) := by
      intro j hj
      rw [HH.out.2.cell (x := ⟨blk, off + j, none⟩) hp, HL.out j hj, ints_get _ _ _ (by rw [wordsN_length]; exact hj)]
      have : (wordsN R 0 cc).getD j 0 = Drw.wordN R j := by
        unfold wordsN
        rw [List.getD_eq_getElem?_getD, List.getElem?_map, List.getElem?_range hj]
        simp
      rw [this]
    by_cases hic : i < c
    · have cx := hcell i (by have := HCC.out; omega)
      obtain ⟨x, hxx⟩ : ∃ x, Drw.wordN R i = x := ⟨_, rfl⟩
      rw [hxx] at cx
      have HX := hid hxx
      have l0 : (i : Int) < (c : Int) := by omega
      have l1' : (i : Int) < (cc : Int) := by omega
      clear hcell hxx
      go_wp2_with fail
      refine Txt.wp_region_text [true, false, true, true, true, true, true] (fun wx => wx.cell? ⟨blk, off + i, none⟩ = some (.int .u64 (x : Nat))) (by kernel_rfl) (by kernel_rfl) cx ?_
      refine Txt.text_free rfl (fun K hK => ?_); go_simp; refine hK _ ?_; clear hK K
      refine Txt.text_chain rfl (fun K hK => ?_)
      go_simp
      refine (dword_walk d R i 0 wr.drew (by omega) ⟨hRl, HRB.out, (HT.out.keep H2.out HT.out.lt).keep (HH.out.2.drewN 1) (Nat.lt_of_lt_of_le hgt hz2), by omega⟩ HH.out.1).mono ?_
      rintro e w4 ⟨rfl, k4, h4⟩
      have cx4 : w4.cell? ⟨blk, off + i, none⟩ = some (.int .u64 (x : Nat)) := (k4.cell (x := ⟨blk, off + i, none⟩) (by show blk < wr.heap.size ∧ blk ≠ d; omega)).trans cx
      rw [HX.out]
      have H4 := hid (And.intro h4 (HH.out.2.trans ((Keep.refl _ wr).drew.trans (k4.mono (fun k h => ⟨Nat.lt_of_lt_of_le h hzr, by omega⟩)))))
      clear k4 h4
      refine hK _ _ ⟨cx4, ?_⟩
      clear hK K
      iterate 3 (refine Txt.text_free rfl (fun K hK => ?_); go_simp; refine hK _ ?_; clear hK K)
      refine Txt.text_held (.int .u64 (x : Nat)) rfl (fun w0 h0 => by go_simp) (fun K hK => hK _ ?_)
      refine Txt.text_free rfl (fun K hK => ?_); go_simp; refine hK _ ?_; clear hK K
      refine Txt.text_done ?_
      clear cx cx4
      go_wp2_with fail
      go_roundg (gk - 1)
      case measure => omega
      case rel => exact ⟨i + 1, by omega, by go_num, H4.out.1, H4.out.2⟩
    · obtain rfl : i = c := by omega
      have cx := hcell i (by have := HCC.out; omega)
      clear hcell
      go_wp2_with fail
      obtain ⟨K2, hK2⟩ : ∃ K, 2 ^ b = K := ⟨_, rfl⟩
      have hKb : K2 ≤ 1152921504606846976 := by
        have h : 2 ^ b ≤ 2 ^ 60 := Nat.pow_le_pow_right (by decide) hb2
        rw [hK2] at h
        exact h
      have hKa : 2 ≤ K2 := by
        have h : 2 ^ 1 ≤ 2 ^ b := Nat.pow_le_pow_right (by decide) hb3
        rw [hK2] at h
        exact h
      have eW : wrap64 ((2 : Int) ^ b) = (K2 : Int) := by
        rw [show ((2 : Int) ^ b) = (K2 : Int) by rw [← hK2, Int.natCast_pow]; rfl]
        exact IntWalk.wrap64_in (K2 : Int) (by omega)
      rw [eW]
      clear eW
      have hp2 : Drw.pick R K2 i = (Drw.wordN R i % K2, i + 1) := by rw [← hK2]; exact Drw.pick_pow R b i (by omega) (word_lt i)
      have HK2 := hid hK2
      clear hK2
      refine (dpick_walk d R i 0 K2 wr (by omega) (by omega) (by omega) ⟨hRl, HRB.out, (HT.out.keep H2.out HT.out.lt).keep HH.out.2 (Nat.lt_of_lt_of_le hgt hz2), by omega⟩ HH.out.1).mono ?_
      rintro e w4 ⟨rfl, k4, h4⟩
      rw [hp2]
      have cx4 : w4.cell? ⟨blk, off + i, none⟩ = some (.int .u64 (Drw.wordN R i : Nat)) := (k4.cell (x := ⟨blk, off + i, none⟩) (by show blk < wr.heap.size ∧ blk ≠ d; omega)).trans cx
      have H4 := hid (H2.out.trans ((HH.out.2.mono (fun k h => Nat.lt_of_lt_of_le h hz2)).trans (k4.mono (fun k h => by omega))))
      obtain ⟨x, hxx⟩ : ∃ x, Drw.wordN R i = x := ⟨_, rfl⟩
      have hx64 : x < 18446744073709551616 := by rw [← hxx]; exact word_lt i
      rw [hxx] at cx4 ⊢
      obtain ⟨y, hy⟩ : ∃ y, x % K2 = y := ⟨_, rfl⟩
      have hyK : y < K2 := by rw [← hy]; exact Nat.mod_lt _ (by omega)
      have ey : (x : Int) % (K2 : Int) = (y : Int) := by rw [← hy]; exact (Int.natCast_emod x K2).symm
      rw [hy]
      have l1' : (i : Int) < (cc : Int) := by have := HCC.out; omega
      have b63 : (b : Int) < 64 := by omega
      have eU : IntKind.u64.wrap ((2 : Int) ^ b) = (K2 : Int) := by
        rw [show ((2 : Int) ^ b) = (K2 : Int) by rw [← HK2.out, Int.natCast_pow]; rfl, IntKind.wrap_u64]
        omega
      have wu : IntKind.u64.wrap (y : Int) = (y : Int) := by rw [IntKind.wrap_u64]; omega
      clear hp2 k4 h4 hxx hy cx
      go_wp2_with fail
      go_quiet (fail)
      go_wp2_with fail
      go_ret
      exact ⟨rfl, H4.out.drewN _⟩
theorem drawNumbers_walk (u : Value) (seed : List Nat) (c0 b0 : Int) (a : Addr) (w : World) (p : Nat → Prop) (hx : ∀ x ∈ seed, x < 256) (hT : TurnsAt w) (_ : ErrAt w 0 a) (hu : Cells w p u (ints .u8 seed)) :
    Calls Tryd.prog 10 #[u, .int .i64 c0, .int .i64 b0] w fun e w' => e = .returned (.bool true) ∧ Keep (· < w.heap.size) w w' := drawNumbers_walk0 u seed c0 b0 w p hx hT hu
end Go.Proofs.YtjknjjcdgniodaaDoor
