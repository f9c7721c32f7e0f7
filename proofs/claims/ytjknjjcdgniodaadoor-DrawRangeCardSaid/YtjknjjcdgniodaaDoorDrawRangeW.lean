/-
  Step by step: the statement 'DrawRange'.
-/
import Derived.Test.YtjknjjcdgniodaaDoorDrawNumbersW
import Derived.Test.YtjknjjcdgniodaaDoorNum
namespace Go.Proofs.YtjknjjcdgniodaaDoor
open Go.RowKit Go.Proofs.Mem

set_option maxRecDepth 100000 in
set_option maxHeartbeats 2000000 in
theorem drawRange_walk (u : Value) (seed : List Nat) (n : Int) (es : List Addr) (w : World) (p : Nat → Prop) (hx : ∀ x ∈ seed, x < 256) (hn : (Lit.int .i64 n).wf = true) (hT : TurnsAt w) (he : ErrsAt w (errGs.take 17) es) (hd : es.Nodup) (hu : Cells w p u (ints .u8 seed)) :
    Calls Tryd.prog 12 #[u, .int .i64 n] w fun e w' => e = .returned (.bool true) ∧ Keep (· < w.heap.size) w w' := by
  have Hu := hid (hu.lt.mono (fun _ h => h.1))
  have HT := hid hT
  have HE : Hid (ErrsAt w errGs es) := he
  have HD := hid hd
  have l1 := hu.len_le
  have n1 : n ≤ 9223372036854775807 := by
    simp [Lit.wf, IntKind.min, IntKind.max, IntKind.signed, IntKind.bits] at hn
    omega
  rw [ints_length] at l1
  have hl : es.length = 17 := he.length
  obtain ⟨a0, ha0⟩ : ∃ a, es[0]? = some a := ⟨_, List.getElem?_eq_getElem (by omega)⟩
  have HA0 := hid ha0
  clear hu hT he hd hn ha0
  obtain ⟨a1, m1, c1, rfl, e1, m1', q1, _⟩ := Hu.out
  rw [ints_length] at e1
  subst e1
  have q1' : c1 ≤ 9223372036854775807 := by simpa [maxLen] using q1
  clear q1
  go_enter Tryd.func12, Tryd.ntmps12
  go_wp2_with fail
  refine (alive4_walk w HT.out).mono ?_
  rintro e w1 ⟨rfl, k1⟩
  have H1 := hid k1
  clear k1
  by_cases g1 : 1000 < seed.length
  · have g1' : decide ((1000 : Int) < (seed.length : Int)) = true := by simp; omega
    go_wp2_with fail
    go_ret
    exact ⟨rfl, H1.out⟩
  have g1' : decide ((1000 : Int) < (seed.length : Int)) = false := by simp; omega
  go_wp2_with fail
  have hz1 := H1.out.size
  have hgt := HT.out.lt
  refine (drawnew_walk _ seed w1 _ hx (by omega) (HT.out.keep H1.out HT.out.lt) (Hu.out.keep H1.out (fun _ h => h))).mono ?_
  rintro e w2 ⟨d, rfl, hwd, k2, h2⟩
  have H2 := hid (And.intro (H1.out.trans (k2.mono (fun k h => Nat.lt_of_lt_of_le h hz1))) h2)
  have hz2 := h2.lt
  clear k2 h2 H1
  obtain ⟨R, hR⟩ : ∃ R, Sha.of seed = R := ⟨_, rfl⟩
  have hRl : R.length = 32 := by rw [← hR]; exact of_length hx
  have hRb : ∀ x ∈ R, x < 256 := by rw [← hR]; exact of_lt
  rw [hR] at H2
  have HRB := hid hRb
  clear hR hRb
  have hE0 : ErrAt w 0 a0 := by
    obtain ⟨g, hg, h⟩ := errs_get HE.out 0 a0 HA0.out
    obtain rfl : g = 0 := (Option.some.inj hg).symm
    exact h
  have HE0 := hid (hE0.keep H2.out.1 hE0.lt hE0.blt)
  clear hE0
  go_wp2_with fail
  by_cases h1 : n < 1
  · refine (dpick_bad d n _ w2 h1 HE0.out.cell).mono ?_
    rintro e w3 ⟨rfl, k3⟩
    have H3 := hid (And.intro (H2.out.1.trans (k3.mono (fun _ _ => trivial))) (H2.out.2.keep k3 trivial))
    clear k3 H2
    have t1 : decide (n < 1) = true := by simpa using h1
    go_wp2_with fail
    refine (num_at es 0 a0 w3 (HE.out.keep H3.out.1 (fun _ h => h)) HD.out HA0.out).mono ?_
    rintro e w4 ⟨rfl, k4⟩
    have hz3 := H3.out.1.size
    have H4 := hid (And.intro (H3.out.1.trans (k4.mono (fun k h => Nat.lt_of_lt_of_le h hz3))) (H3.out.2.keep k4 H3.out.2.lt))
    clear k4 H3
    go_wp2_with fail
    refine (dtaken_walk d R 0 0 w4 hRl H4.out.2).mono ?_
    rintro e w5 ⟨rfl, rfl⟩
    go_wp2_with fail
    go_ret
    exact ⟨rfl, H4.out.1⟩
  · have t1 : decide (n < 1) = false := by simpa using h1
    have t2 : (0 : Int) ≤ n := by omega
    by_cases h2 : n = 1
    · subst h2
      refine (dpick_one d w2).mono ?_
      rintro e w3 ⟨rfl, rfl⟩
      go_wp2_with fail
      refine (dtaken_walk d R 0 0 w2 hRl H2.out.2).mono ?_
      rintro e w5 ⟨rfl, rfl⟩
      go_wp2_with fail
      refine (dtaken_walk d R 0 0 w2 hRl H2.out.2).mono ?_
      rintro e w5 ⟨rfl, rfl⟩
      go_wp2_with fail
      go_ret
      exact ⟨rfl, H2.out.1⟩
    · obtain ⟨m, rfl⟩ : ∃ m : Nat, n = (m : Int) := ⟨n.toNat, by omega⟩
      have h3 : 2 ≤ m := by omega
      refine (dpick_walk d R 0 0 m w2 (by omega) h3 (by omega) ⟨hRl, HRB.out, HT.out.keep H2.out.1 HT.out.lt, by omega⟩ H2.out.2).mono ?_
      rintro e w3 ⟨rfl, k3, h3'⟩
      obtain ⟨p1, p2, p3⟩ := Drw.pickTo_lt R m (by omega) 63 (Drw.wordN R 0) (0 + 1)
      obtain ⟨x, hxx⟩ : ∃ x, (Drw.pick R m 0).1 = x := ⟨_, rfl⟩
      obtain ⟨t, htt⟩ : ∃ x, (Drw.pick R m 0).2 = x := ⟨_, rfl⟩
      have hxm : x < m := by rw [← hxx]; exact p1
      have ht1 : 1 ≤ t := by rw [← htt]; exact p2
      have ht2 : t ≤ 64 := by rw [← htt]; exact p3
      rw [hxx]
      rw [htt] at h3'
      have H3 := hid (And.intro (H2.out.1.trans (k3.mono (fun k h => ⟨by omega, by omega⟩))) h3')
      clear k3 h3' hxx htt p1 p2 p3 h2 h1
      have s1 : decide ((0 : Int) ≤ (x : Int)) = true := by simp
      have s2 : decide ((x : Int) < (m : Int)) = true := by simp; omega
      have s3 : decide ((1 : Int) < (m : Int)) = true := by simp; omega
      have s4 : decide ((1 : Int) ≤ (t : Int)) = true := by simp; omega
      have s5 : decide ((t : Int) ≤ 64) = true := by simp; omega
      go_wp2_with fail
      refine (dtaken_walk d R t 0 w3 hRl H3.out.2).mono ?_
      rintro e w5 ⟨rfl, rfl⟩
      go_wp2_with fail
      refine (dtaken_walk d R t 0 w3 hRl H3.out.2).mono ?_
      rintro e w5 ⟨rfl, rfl⟩
      go_wp2_with fail
      go_ret
      exact ⟨rfl, H3.out.1⟩
end Go.Proofs.YtjknjjcdgniodaaDoor
