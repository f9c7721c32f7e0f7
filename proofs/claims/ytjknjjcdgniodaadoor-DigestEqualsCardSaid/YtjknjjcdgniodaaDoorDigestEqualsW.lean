/-
  Step by step: the statement 'DigestEquals'.
-/
import Derived.Test.YtjknjjcdgniodaaDoorAlive
import Derived.Test.YtjknjjcdgniodaaDoorEqual
import Derived.OwnWalk
namespace Go.Proofs.YtjknjjcdgniodaaDoor
open Go.RowKit Go.Proofs.Mem

theorem ne_more (a : List Nat) (m : Nat) : ¬ a = a ++ [m] := by
  intro h
  have := congrArg List.length h
  simp at this

set_option maxRecDepth 100000 in
set_option maxHeartbeats 2000000 in
theorem digestEquals_walk (u v : Value) (a b : List Nat) (m : Int) (w : World) (p p' : Nat → Prop) (ha : ∀ x ∈ a, x < 256) (hb : ∀ x ∈ b, x < 256) (hm : (Lit.int .u8 m).wf = true) (hT : TurnsAt w) (hu : Cells w p u (ints .u8 a)) (hv : Cells w p' v (ints .u8 b)) :
    Calls Tryd.prog 5 #[u, v, .int .u8 m] w fun e w' => e = .returned (.bool true) ∧ Keep (· < w.heap.size) w w' := by
  obtain ⟨m, rfl⟩ : ∃ n : Nat, m = (n : Int) := by
    simp [Lit.wf, IntKind.min, IntKind.max, IntKind.signed, IntKind.bits] at hm
    exact ⟨m.toNat, by omega⟩
  have hm' : m < 256 := by
    simp [Lit.wf, IntKind.min, IntKind.max, IntKind.signed, IntKind.bits] at hm
    omega
  clear hm
  have Hu := hid (hu.lt.mono (fun _ h => h.1))
  have Hv := hid (hv.lt.mono (fun _ h => h.1))
  have HT := hid hT
  have HA := hid (And.intro ha hb)
  have l1 := hu.len_le
  have l2 := hv.len_le
  rw [ints_length] at l1 l2
  clear hv hu hT ha hb
  obtain ⟨a1, n1, c1, rfl, e1, m1, q1, _⟩ := Hu.out
  obtain ⟨a2, n2, c2, rfl, e2, m2, q2, _⟩ := Hv.out
  rw [ints_length] at e1 e2
  subst e1 e2
  have q1' : c1 ≤ 9223372036854775807 := by simpa [maxLen] using q1
  have q2' : c2 ≤ 9223372036854775807 := by simpa [maxLen] using q2
  clear q1 q2
  go_enter Tryd.func5, Tryd.ntmps5
  go_wp2_with fail
  refine (alive3_walk w HT.out).mono ?_
  rintro e w1 ⟨rfl, k1⟩
  have H1 := hid k1
  clear k1
  by_cases g1 : 5000 < a.length
  · have g1' : decide ((5000 : Int) < (a.length : Int)) = true := by simp; omega
    go_wp2_with fail
    go_ret
    exact ⟨rfl, H1.out⟩
  have g1' : decide ((5000 : Int) < (a.length : Int)) = false := by simp; omega
  by_cases g2 : 5000 < b.length
  · have g2' : decide ((5000 : Int) < (b.length : Int)) = true := by simp; omega
    go_wp2_with fail
    go_ret
    exact ⟨rfl, H1.out⟩
  have g2' : decide ((5000 : Int) < (b.length : Int)) = false := by simp; omega
  go_wp2_with fail
  refine (equal_walk _ _ a b w1 _ _ HA.out.1 HA.out.2 (Hu.out.keep H1.out (fun _ h => h)) (Hv.out.keep H1.out (fun _ h => h))).mono ?_
  rintro e w2 ⟨rfl, k2⟩
  have H2 := hid (H1.out.trans (k2.mono (fun _ _ => trivial)))
  clear k2 H1
  go_wp2_with fail
  refine (equal_walk _ _ b a w2 _ _ HA.out.2 HA.out.1 (Hv.out.keep H2.out (fun _ h => h)) (Hu.out.keep H2.out (fun _ h => h))).mono ?_
  rintro e w3 ⟨rfl, k3⟩
  have H3 := hid (H2.out.trans (k3.mono (fun _ _ => trivial)))
  clear k3 H2
  rw [show decide (b = a) = decide (a = b) by by_cases h : a = b <;> simp [h, eq_comm]]
  obtain ⟨q, hq⟩ : ∃ q, decide (a = b) = q := ⟨_, rfl⟩
  rw [hq]
  have eqq : (q == q) = true := by cases q <;> rfl
  clear hq
  go_wp2_with fail
  refine (equal_walk _ _ a a w3 _ _ HA.out.1 HA.out.1 (Hu.out.keep H3.out (fun _ h => h)) (Hu.out.keep H3.out (fun _ h => h))).mono ?_
  rintro e w4 ⟨rfl, k4⟩
  rw [decide_eq_true rfl]
  have H4 := hid (H3.out.trans (k4.mono (fun _ _ => trivial)))
  clear k4 H3
  obtain ⟨i0, hi0, hz0, hs0, hb0⟩ := info_parts (show (Tryd.prog.info? 5).map (fun i => (i.zero, i.size, i.bytes)) = some (some (.int .u8 0), 1, 1) by kernel_rfl)
  have hw4 := H4.out.size
  have HA5 := hid (append_first (P := Tryd.prog) 22 5 i0 (.int .u8 0) 1 Tryd.underlying22 hi0 hz0 hs0 hb0 rfl w4 22 _ (ints .u8 a) (Hu.out.keep H4.out (fun _ h => h)) (ints_one _ _) (by rw [ints_length]; omega))
  have HB5 := hid (fun (w6 : World) (v1 : Value) (h : w6.ownsRow w4.heap.size 5 1 v1 (ints .u8 a).length (ints .u8 a)) (hz : w4.heap.size ≤ w6.heap.size) => append_one (P := Tryd.prog) 22 5 i0 (.int .u8 0) 1 Tryd.underlying22 hi0 hz0 hs0 hb0 rfl w6 22 w4.heap.size v1 (.int .u8 (m : Int)) (ints .u8 a) h rfl (by rw [ints_length]; omega) (by rw [ints_length]; omega) hz)
  go_wp2_with (first
    | (at_builtin; refine wpList_app_if (.tmp 31) (.tmp 32) 22 22 rfl rfl _ HA5.out ?_; rintro v1 w6 ⟨hown, hg, hz6⟩)
    | (at_builtin; refine wpList_app_if (.tmp 33) (.tmp 35) 22 22 rfl rfl _ (HB5.out w6 v1 hown hz6) ?_; rintro v2 w7 ⟨hown2, hg2, hz7⟩))
  have hc7 : Cells w7 (fun _ => True) v2 (ints .u8 (a ++ [m])) := by rw [ints_append]; exact (owns_cells hown2).mono (fun _ _ => trivial)
  have H7 := hid (H4.out.trans ((hg.trans hg2).mono (fun k h => Nat.lt_of_lt_of_le h hw4)))
  have hm7 : ∀ x ∈ a ++ [m], x < 256 := by
    intro x hx
    rcases List.mem_append.1 hx with h | h
    · exact HA.out.1 x h
    · simp only [List.mem_singleton] at h; omega
  refine (equal_walk _ _ a (a ++ [m]) w7 _ _ HA.out.1 hm7 (Hu.out.keep H7.out (fun _ h => h)) hc7).mono ?_
  rintro e w8 ⟨rfl, k8⟩
  rw [decide_eq_false (ne_more a m)]
  have H8 := hid (H7.out.trans (k8.mono (fun _ _ => trivial)))
  clear k8 hown hown2 hg hg2 hc7 hm7
  go_wp2_with fail
  go_ret
  exact ⟨rfl, H8.out⟩
end Go.Proofs.YtjknjjcdgniodaaDoor
