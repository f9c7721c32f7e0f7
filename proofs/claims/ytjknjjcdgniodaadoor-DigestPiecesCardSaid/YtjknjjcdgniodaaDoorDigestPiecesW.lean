/-
  Step by step: the statement 'DigestPieces'.
-/
import Derived.Test.YtjknjjcdgniodaaDoorAlive
import Derived.Test.YtjknjjcdgniodaaDoorMem4
namespace Go.Proofs.YtjknjjcdgniodaaDoor
open Go.RowKit Go.Proofs.Mem

set_option maxRecDepth 100000 in
set_option maxHeartbeats 2000000 in
theorem digestPieces_walk (u v : Value) (a b : List Nat) (w : World) (p p' : Nat → Prop) (ha : ∀ x ∈ a, x < 256) (hb : ∀ x ∈ b, x < 256) (hT : TurnsAt w) (hu : Cells w p u (ints .u8 a)) (hv : Cells w p' v (ints .u8 b)) :
    Calls Tryd.prog 4 #[u, v] w fun e w' => e = .returned (.bool true) ∧ Keep (· < w.heap.size) w w' := by
  have Hu := hid (hu.lt.mono (fun _ h => h.1))
  have Hv := hid (hv.lt.mono (fun _ h => h.1))
  have HT := hid hT
  have l1 := hu.len_le
  have l2 := hv.len_le
  rw [ints_length] at l1 l2
  clear hv hu hT
  obtain ⟨a1, n1, c1, rfl, e1, m1, q1, _⟩ := Hu.out
  obtain ⟨a2, n2, c2, rfl, e2, m2, q2, _⟩ := Hv.out
  rw [ints_length] at e1 e2
  subst e1 e2
  have q1' : c1 ≤ 9223372036854775807 := by simpa [maxLen] using q1
  have q2' : c2 ≤ 9223372036854775807 := by simpa [maxLen] using q2
  clear q1 q2
  go_enter Tryd.func4, Tryd.ntmps4
  go_wp2_with fail
  refine (alive3_walk w HT.out).mono ?_
  rintro e w1 ⟨rfl, k1⟩
  have H1 := hid k1
  clear k1
  by_cases g1 : 5000 < a.length
  · have g1' : decide ((5000 : Int) < (a.length : Int)) = true := by simp; omega
    go_wp2_with fail
    go_ret
    exact ⟨rfl, H1.out⟩
  have g1' : decide ((5000 : Int) < (a.length : Int)) = false := by simp; omega
  by_cases g2 : 5000 < b.length
  · have g2' : decide ((5000 : Int) < (b.length : Int)) = true := by simp; omega
    go_wp2_with fail
    go_ret
    exact ⟨rfl, H1.out⟩
  have g2' : decide ((5000 : Int) < (b.length : Int)) = false := by simp; omega
  go_wp2_with fail
  refine (new_walk w1).mono ?_
  rintro e w2 ⟨rfl, k2, z2, h2⟩
  have H2 := hid (And.intro (H1.out.trans (k2.mono (fun k h => Nat.lt_of_lt_of_le h H1.out.size))) h2)
  obtain ⟨s, hs⟩ : ∃ s, w1.heap.size = s := ⟨_, rfl⟩
  have hsz : w.heap.size ≤ s := by rw [← hs]; exact H1.out.size
  rw [hs] at H2 ⊢
  clear k2 z2 h2 hs H1
  have hab : ∀ x ∈ a ++ b, x < 256 := by
    intro x hx
    rcases List.mem_append.1 hx with h | h
    · exact ha x h
    · exact hb x h
  have HAB := hid hab
  have HA := hid (And.intro ha hb)
  clear hab ha hb
  go_wp2_with fail
  refine (take_walk s _ _ a w2 new_good (by simp [Sha.St.new]; omega) HA.out.1 (HT.out.keep H2.out.1 HT.out.lt) H2.out.2 ((Hu.out.keep H2.out.1 (fun _ h => h)).mono (fun k h => by omega))).mono ?_
  rintro e w3 ⟨rfl, k3, h3⟩
  have H3 := hid (And.intro (H2.out.1.trans (k3.mono (fun k h => by have := H2.out.1.size; omega))) h3)
  clear k3 h3 H2
  go_wp2_with fail
  refine (take_walk s _ _ b w3 (take_good new_good HA.out.1) (by rw [Sha.take_n]; simp [Sha.St.new]; omega) HA.out.2 (HT.out.keep H3.out.1 HT.out.lt) H3.out.2 ((Hv.out.keep H3.out.1 (fun _ h => h)).mono (fun k h => by omega))).mono ?_
  rintro e w4 ⟨rfl, k4, h4⟩
  rw [← Sha.take_append] at h4
  have H4 := hid (And.intro (H3.out.1.trans (k4.mono (fun k h => by have := H3.out.1.size; omega))) h4)
  clear k4 h4 H3
  obtain ⟨T, hTt⟩ : ∃ T, Sha.St.new.take (a ++ b) = T := ⟨_, rfl⟩
  have hTg : Good T := by rw [← hTt]; exact take_good new_good HAB.out
  have hTn : T.n = a.length + b.length := by rw [← hTt, Sha.take_n, List.length_append]; exact Nat.zero_add _
  rw [hTt] at H4
  obtain ⟨F, hF⟩ : ∃ F, T.sum = F := ⟨_, rfl⟩
  have hFl : F.length = 32 := by rw [← hF]; exact sum_length hTg
  have hFb : ∀ x ∈ F, x < 256 := by rw [← hF]; exact sum_lt
  have hFo : Sha.of (a ++ b) = F := by rw [← hF, ← hTt]; rfl
  have eq := fun w0 => eql_bytes (P := Tryd.prog) 24 5 32 Tryd.underlying24 Tryd.underlying5 (by kernel_rfl) w0 hFb hFb hFl hFl
  simp only [beq_self_eq_true] at eq
  have HF := hid (And.intro hF (And.intro hFo hTn))
  clear hTt hF hFo hTn
  go_wp2_with fail
  refine (sum_walk s T w4 hTg (by have := HF.out.2.2; omega) (HT.out.keep H4.out.1 HT.out.lt) H4.out.2).mono ?_
  rintro e w5 ⟨rfl, k5⟩
  rw [HF.out.1]
  have H5 := hid (And.intro (H4.out.1.trans (k5.mono (fun k h => Nat.lt_of_lt_of_le h H4.out.1.size))) (H4.out.2.keep k5 H4.out.2.lt))
  clear k5 H4
  obtain ⟨i0, hi0, hz0, hs0, hb0⟩ := info_parts (show (Tryd.prog.info? 5).map (fun i => (i.zero, i.size, i.bytes)) = some (some (.int .u8 0), 1, 1) by kernel_rfl)
  have hw5 := H5.out.1.size
  have HA5 := hid (append_first (P := Tryd.prog) 22 5 i0 (.int .u8 0) 1 Tryd.underlying22 hi0 hz0 hs0 hb0 rfl w5 22 _ (ints .u8 a) (Hu.out.keep H5.out.1 (fun _ h => h)) (ints_one _ _) (by rw [ints_length]; omega))
  have HB5 := hid (fun w6 (k : Keep (· < w5.heap.size) w5 w6) v1 (h : w6.ownsRow w5.heap.size 5 1 v1 (ints .u8 a).length (ints .u8 a)) (hz : w5.heap.size ≤ w6.heap.size) => append_keep (P := Tryd.prog) 22 5 i0 (.int .u8 0) 1 Tryd.underlying22 hi0 hz0 hs0 hb0 rfl w6 22 w5.heap.size v1 _ (ints .u8 a) (ints .u8 b) h ((Hv.out.keep H5.out.1 (fun _ h => h)).keep k (fun k h => Nat.lt_of_lt_of_le h hw5)) (ints_one _ _) (by rw [ints_length, ints_length]; omega) (by rw [ints_length, ints_length]; omega) hz)
  go_wp2_with (first
    | (refine wpList_app rfl (.tmp 25) (.tmp 26) 22 22 rfl _ HA5.out ?_; rintro v1 w6 ⟨hown, hg, hz6⟩)
    | (refine wpList_app rfl (.tmp 27) (.tmp 28) 22 22 rfl _ (HB5.out w6 hg v1 hown hz6) ?_; rintro v2 w7 ⟨hown2, hg2, hz7⟩))
  have hs5 := H5.out.2.lt
  have k57 : Keep (· < w5.heap.size) w5 w7 := hg.trans hg2
  have hc7 : Cells w7 (fun _ => True) v2 (ints .u8 (a ++ b)) := by rw [ints_append]; exact (owns_cells hown2).mono (fun _ _ => trivial)
  have H7 := hid (And.intro (H5.out.1.trans (k57.mono (fun k h => Nat.lt_of_lt_of_le h hw5))) (And.intro (H5.out.2.keep k57 hs5) hc7))
  clear hown hown2 hg hg2 k57 hc7 HA5 HB5 hz6 hz7
  refine (of_walk _ (a ++ b) w7 _ HAB.out (by simp; omega) (HT.out.keep H7.out.1 HT.out.lt) H7.out.2.2).mono ?_
  rintro e w8 ⟨rfl, k8⟩
  rw [HF.out.2.1]
  have H8 := hid (And.intro (H7.out.1.trans (k8.mono (fun k h => Nat.lt_of_lt_of_le h H7.out.1.size))) (H7.out.2.1.keep k8 H7.out.2.1.lt))
  clear k8 H7
  go_wp2_with fail
  refine (len_walk s T w8 hTg (by have := HF.out.2.2; omega) H8.out.2).mono ?_
  rintro e w9 ⟨rfl, rfl⟩
  rw [HF.out.2.2]
  go_wp2_with fail
  refine (sum_walk s T w8 hTg (by have := HF.out.2.2; omega) (HT.out.keep H8.out.1 HT.out.lt) H8.out.2).mono ?_
  rintro e w10 ⟨rfl, k10⟩
  rw [HF.out.1]
  have H10 := hid (And.intro (H8.out.1.trans (k10.mono (fun k h => Nat.lt_of_lt_of_le h H8.out.1.size))) (H8.out.2.keep k10 H8.out.2.lt))
  clear k10 H8
  go_wp2_with fail
  refine (sum_walk s T w10 hTg (by have := HF.out.2.2; omega) (HT.out.keep H10.out.1 HT.out.lt) H10.out.2).mono ?_
  rintro e w11 ⟨rfl, k11⟩
  rw [HF.out.1]
  have H11 := hid (H10.out.1.trans (k11.mono (fun k h => Nat.lt_of_lt_of_le h H10.out.1.size)))
  clear k11
  go_wp2_with fail
  go_ret
  exact ⟨rfl, H11.out⟩
end Go.Proofs.YtjknjjcdgniodaaDoor
