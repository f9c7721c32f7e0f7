/-
  Step by step: the statement 'DrawWords'.
-/
import Derived.Test.YtjknjjcdgniodaaDoorRefWord
import Derived.Test.YtjknjjcdgniodaaDoorNum
namespace Go.Proofs.YtjknjjcdgniodaaDoor
open Go.RowKit Go.Proofs.Mem

set_option maxHeartbeats 1000000 in
theorem dwords_bad (v : Value) (fr c : Int) (ev : Value) (w : World) (h : fr < 0 ∨ 1099511627776 < fr ∨ c < 0) (hc : c ≤ 4096) (he : w.cell? ⟨0, 0, none⟩ = some ev) :
    Calls Tryd.prog 36 #[v, .int .i64 fr, .int .i64 c] w fun e w' => e = .returned (.tuple #[.slice none 0 0, ev]) ∧ Keep (fun _ => True) w w' := by
  have t4 : decide ((4096 : Int) < c) = false := by simp; omega
  by_cases h1 : fr < 0
  · have t1 : decide (fr < 0) = true := by simpa using h1
    clear h
    go_enter Tryd.func36, Tryd.ntmps36
    go_wp2_with fail
    go_quiet (fail)
    go_wp2_with fail
    go_ret2
    exact ⟨rfl, drewN_keep _ _⟩
  · have t1 : decide (fr < 0) = false := by simpa using h1
    by_cases h2 : 1099511627776 < fr
    · have t2 : decide (1099511627776 < fr) = true := by simpa using h2
      clear h
      go_enter Tryd.func36, Tryd.ntmps36
      go_wp2_with fail
      go_quiet (fail)
      go_wp2_with fail
      go_ret2
      exact ⟨rfl, drewN_keep _ _⟩
    · have t2 : decide (1099511627776 < fr) = false := by simp; omega
      have h3 : c < 0 := by omega
      have t3 : decide (c < 0) = true := by simpa using h3
      clear h
      go_enter Tryd.func36, Tryd.ntmps36
      go_wp2_with fail
      go_quiet (fail)
      go_wp2_with fail
      go_ret2
      exact ⟨rfl, drewN_keep _ _⟩

set_option maxRecDepth 100000 in
set_option maxHeartbeats 2000000 in
theorem drawWords_walk (u : Value) (seed : List Nat) (fr c : Int) (es : List Addr) (w : World) (p : Nat → Prop) (hx : ∀ x ∈ seed, x < 256) (hT : TurnsAt w) (he : ErrsAt w (errGs.take 17) es) (hd : es.Nodup) (hu : Cells w p u (ints .u8 seed)) :
    Calls Tryd.prog 13 #[u, .int .i64 fr, .int .i64 c] w fun e w' => e = .returned (.bool true) ∧ Keep (· < w.heap.size) w w' := by
  have Hu := hid (hu.lt.mono (fun _ h => h.1))
  have HT := hid hT
  have HE : Hid (ErrsAt w errGs es) := he
  have HD := hid hd
  have l1 := hu.len_le
  rw [ints_length] at l1
  have hl : es.length = 17 := he.length
  obtain ⟨a0, ha0⟩ : ∃ a, es[0]? = some a := ⟨_, List.getElem?_eq_getElem (by omega)⟩
  have HA0 := hid ha0
  have hgt := hT.lt
  clear hu hT he hd ha0
  obtain ⟨a1, m1, c1, rfl, e1, m1', q1, _⟩ := Hu.out
  rw [ints_length] at e1
  subst e1
  have q1' : c1 ≤ 9223372036854775807 := by simpa [maxLen] using q1
  clear q1
  go_enter Tryd.func13, Tryd.ntmps13
  go_wp2_with fail
  refine (alive4_walk w HT.out).mono ?_
  rintro e w1 ⟨rfl, k1⟩
  have H1 := hid k1
  have hz1 := k1.size
  clear k1
  by_cases g1 : 3000 < seed.length
  · have g1' : decide ((3000 : Int) < (seed.length : Int)) = true := by simp; omega
    go_wp2_with fail
    go_ret
    exact ⟨rfl, H1.out⟩
  have g1' : decide ((3000 : Int) < (seed.length : Int)) = false := by simp; omega
  by_cases g2 : 200 < c
  · have g2' : decide ((200 : Int) < c) = true := by simpa using g2
    go_wp2_with fail
    go_ret
    exact ⟨rfl, H1.out⟩
  have g2' : decide ((200 : Int) < c) = false := by simp; omega
  go_wp2_with fail
  have hE0 : ErrAt w 0 a0 := by
    obtain ⟨g, hg, h⟩ := errs_get HE.out 0 a0 HA0.out
    obtain rfl : g = 0 := (Option.some.inj hg).symm
    exact h
  have HE1 := hid (hE0.keep H1.out hE0.lt hE0.blt)
  clear hE0
  by_cases hbad : fr < 0 ∨ 1099511627776 < fr ∨ c < 0
  · refine (dwords_bad _ fr c _ w1 hbad (by omega) HE1.out.cell).mono ?_
    rintro e w2 ⟨rfl, k2⟩
    have H2 := hid (H1.out.trans (k2.mono (fun _ _ => trivial)))
    clear k2
    have hfin : Hid (∀ w3 : World, Keep (· < w2.heap.size) w2 w3 → Keep (· < w.heap.size) w w3) := fun w3 k3 => H2.out.trans (k3.mono (fun k h => Nat.lt_of_lt_of_le h H2.out.size))
    by_cases h1 : fr < 0
    · have t1 : decide (fr < 0) = true := by simpa using h1
      clear hbad
      go_wp2_with fail
      refine (num_at es 0 a0 w2 (HE.out.keep H2.out (fun _ h => h)) HD.out HA0.out).mono ?_
      rintro e w3 ⟨rfl, k3⟩
      have H3 := hid (hfin.out w3 k3)
      clear k3
      go_wp2_with fail
      go_ret
      exact ⟨rfl, H3.out⟩
    · have t1 : decide (fr < 0) = false := by simpa using h1
      by_cases h2 : 1099511627776 < fr
      · have t2 : decide (1099511627776 < fr) = true := by simpa using h2
        clear hbad
        go_wp2_with fail
        refine (num_at es 0 a0 w2 (HE.out.keep H2.out (fun _ h => h)) HD.out HA0.out).mono ?_
        rintro e w3 ⟨rfl, k3⟩
        have H3 := hid (hfin.out w3 k3)
        clear k3
        go_wp2_with fail
        go_ret
        exact ⟨rfl, H3.out⟩
      · have t2 : decide (1099511627776 < fr) = false := by simp; omega
        have h3 : c < 0 := by omega
        have t3 : decide (c < 0) = true := by simpa using h3
        clear hbad
        go_wp2_with fail
        refine (num_at es 0 a0 w2 (HE.out.keep H2.out (fun _ h => h)) HD.out HA0.out).mono ?_
        rintro e w3 ⟨rfl, k3⟩
        have H3 := hid (hfin.out w3 k3)
        clear k3
        go_wp2_with fail
        go_ret
        exact ⟨rfl, H3.out⟩
  · obtain ⟨f, rfl⟩ : ∃ f : Nat, fr = (f : Int) := ⟨fr.toNat, by omega⟩
    obtain ⟨n, rfl⟩ : ∃ n : Nat, c = (n : Int) := ⟨c.toNat, by omega⟩
    have hf : f ≤ 1099511627776 := by omega
    have hn : n ≤ 200 := by omega
    have t1 : decide ((f : Int) < 0) = false := by simp
    have t2 : decide ((1099511627776 : Int) < (f : Int)) = false := by simp; omega
    have t3 : decide ((n : Int) < 0) = false := by simp
    clear hbad g2
    refine (dwords_walk _ seed f n w1 _ hx (by omega) hf (by omega) (HT.out.keep H1.out HT.out.lt) (Hu.out.keep H1.out (fun _ h => h))).mono ?_
    rintro e w2 ⟨vl, rfl, k2, hl2⟩
    have H2 := hid (And.intro (H1.out.trans (k2.mono (fun k h => Nat.lt_of_lt_of_le h hz1))) (hl2.lt.mono (fun k h => (show k < w2.heap.size from h.1))))
    obtain ⟨vla, vln, vlc, rfl, hvl, hvc, hvm, hvcell⟩ := hl2
    rw [ints_length, wordsN_length] at hvl
    have hvl' := hvl.symm
    clear hvl
    subst hvl'
    have hvc' : vlc ≤ 9223372036854775807 := by simpa [maxLen] using hvm
    have hz2 : w1.heap.size ≤ w2.heap.size := k2.size
    clear k2 hvcell hvm
    go_wp2_with fail
    refine (refnew_walk w2).mono ?_
    rintro e w3 ⟨rfl, k3, hW3⟩
    have H3 := hid (And.intro (H2.out.1.trans (k3.mono (fun k h => by omega))) (And.intro (H2.out.2.keep k3 (fun _ h => h)) hW3))
    have hz3 : w2.heap.size < w3.heap.size := hW3.lt
    clear k3 hW3
    obtain ⟨hb, hhb⟩ : ∃ hb, w2.heap.size = hb := ⟨_, rfl⟩
    rw [hhb] at H3 H2 hz2 hz3 ⊢
    clear hhb
    go_wp2_with fail
    refine (refof_walk hb _ seed w3 _ (by omega) hx H3.out.2.2 (Hu.out.keep H3.out.1 (fun _ h => h))).mono ?_
    rintro e w4 ⟨vr, rfl, k4, hr4⟩
    have H4 := hid (And.intro (H3.out.1.trans (k4.mono (fun k h => by omega))) (And.intro (H3.out.2.1.keep k4 (fun k h => by omega)) (And.intro (H3.out.2.2.keep k4 (fun j _ h => h)) (hr4.lt.mono (fun k h => (show k < w4.heap.size from h.1))))))
    have hz4 := k4.size
    clear k4 hr4
    obtain ⟨R, hR⟩ : ∃ R, Sha.of seed = R := ⟨_, rfl⟩
    have hRl : R.length = 32 := by rw [← hR]; exact of_length hx
    have hRb : ∀ x ∈ R, x < 256 := by rw [← hR]; exact of_lt
    rw [hR] at H4
    have HRB := hid hRb
    clear hR hRb
    go_wp2_with fail
    go_loopg [61] n (fun k s61 wr => ∃ i, i + k = n ∧ s61 = .int .i64 (i : Int) ∧ Keep (· < w4.heap.size) w4 wr)
    case atStart => exact ⟨0, by omega, rfl, Keep.refl _ _⟩
    case round =>
      obtain ⟨i, hi, rfl, hk⟩ := hrel
      have HK := hid hk
      clear hk
      by_cases hin : i < n
      · obtain ⟨blk, off, cp, eq, _, _, hp, hcl⟩ := H4.out.2.1.at_ (by rw [ints_length, wordsN_length]; omega)
        injection eq with eq1 eq2 eq3
        subst eq1
        obtain ⟨x, hxx⟩ : ∃ x, Drw.wordN R (f + i) = x := ⟨_, rfl⟩
        have cx : wr.cell? ⟨blk, off + i, none⟩ = some (.int .u64 (x : Nat)) := by
          rw [HK.out.cell (x := ⟨blk, off + i, none⟩) (by show blk < _; omega), hcl i (by rw [ints_length, wordsN_length]; exact hin), ints_get _ _ _ (by rw [wordsN_length]; exact hin)]
          have : (wordsN R f n).getD i 0 = Drw.wordN R (f + i) := by
            unfold wordsN
            rw [List.getD_eq_getElem?_getD, List.getElem?_map, List.getElem?_range hin]
            rfl
          rw [this, hxx]
        have l0 : (i : Int) < (n : Int) := by omega
        obtain ⟨m, hm⟩ : ∃ m, f + i = m := ⟨_, rfl⟩
        have em : (f : Int) + (i : Int) = (m : Int) := by omega
        rw [hm] at hxx
        have hml : m < 4611686018427387904 := by omega
        have HX := hid hxx
        clear hxx hm eq2 eq3 hcl
        go_wp2_with fail
        refine (refword_walk hb _ R m wr _ hRl HRB.out hml (H4.out.2.2.1.keep HK.out (fun j _ h => h)) (H4.out.2.2.2.keep HK.out (fun _ h => h))).mono ?_
        rintro e w5 ⟨rfl, k5⟩
        rw [HX.out]
        have H5 := hid (HK.out.trans (k5.mono (fun k h => Nat.lt_of_lt_of_le h HK.out.size)))
        clear k5
        go_wp2_with fail
        go_roundg (gk - 1)
        case measure => omega
        case rel => exact ⟨i + 1, by omega, by go_num, H5.out⟩
      · obtain rfl : i = n := by omega
        go_wp2_with fail
        go_ret
        exact ⟨rfl, H4.out.1.trans (HK.out.mono (fun k h => by omega))⟩
end Go.Proofs.YtjknjjcdgniodaaDoor
