/-
  Step by step: the statement 'WireShort'.
-/
import Derived.Test.YtnpneippahdigaaDoorWireH2
namespace Go.Proofs.YtnpneippahdigaaDoor
open Go.RowKit Go.Proofs.Mem Go.Proofs.Txt

set_option maxRecDepth 100000 in
set_option maxHeartbeats 4000000 in
theorem wireShort_walk (kv bv : Value) (key b : List Nat) (xs : List Addr) (w : World) (p p' : Nat → Prop) (hk : ∀ x ∈ key, x < 256) (hb : ∀ x ∈ b, x < 256) (hT : TurnsAt w) (he : ErrsAt w errGs xs) (hd : xs.Nodup) (hkv : Cells w p kv (ints .u8 key)) (hbv : Cells w p' bv (ints .u8 b)) :
    Calls Tryd.prog 8 #[kv, bv] w fun e w' => e = .returned (.bool true) ∧ Keep (· < w.heap.size) w w' := by
  have HK := hid (hkv.lt.mono (q := fun b => b < w.heap.size) (fun _ h => h.1))
  have HB := hid (hbv.lt.mono (q := fun b => b < w.heap.size) (fun _ h => h.1))
  have HT := hid hT
  have Hk := hid hk
  have Hb := hid hb
  have HE := hid (And.intro he hd)
  obtain ⟨ka, kn, kc, rfl⟩ := cells_form hkv
  obtain ⟨ba, bn, bc, rfl⟩ := cells_form hbv
  have hkn : kn = key.length := by
    obtain ⟨_, _, _, e, h1, _⟩ := id hkv
    injection e with _ e2 _
    rw [e2, h1, ints_length]
  have hbn : bn = b.length := by
    obtain ⟨_, _, _, e, h1, _⟩ := id hbv
    injection e with _ e2 _
    rw [e2, h1, ints_length]
  clear hkv hbv hT hk hb he hd
  go_enter Tryd.func8, Tryd.ntmps8
  go_wp2_with fail
  refine (alive21_walk w HT.out).mono ?_
  rintro e w1 ⟨rfl, k1⟩
  have H1 := hid k1
  clear k1
  by_cases c1 : kn < 1
  · have t1 : decide ((kn : Int) < 1) = true := by simp; omega
    clear hkn hbn
    go_wp2_with fail
    go_ret
    exact ⟨rfl, H1.out⟩
  have t1 : decide ((kn : Int) < 1) = false := by simp; omega
  by_cases c2 : 64 < kn
  · have t2 : decide ((64 : Int) < (kn : Int)) = true := by simp; omega
    clear hkn hbn
    go_wp2_with fail
    go_ret
    exact ⟨rfl, H1.out⟩
  have t2 : decide ((64 : Int) < (kn : Int)) = false := by simp; omega
  by_cases c3 : 40 < bn
  · have t3 : decide ((40 : Int) < (bn : Int)) = true := by simp; omega
    clear hkn hbn
    go_wp2_with fail
    go_ret
    exact ⟨rfl, H1.out⟩
  have t3 : decide ((40 : Int) < (bn : Int)) = false := by simp; omega
  have HL := hid (show 1 ≤ key.length ∧ key.length ≤ 64 ∧ b.length ≤ 40 by omega)
  have hfr := hid (show Wr.isFrame b = false by
    cases h : Wr.isFrame b with
    | false => rfl
    | true => have := ((Wr.isFrame_iff b).1 h).1; have := HL.out; omega)
  clear c1 c2 c3 hkn hbn
  go_wp2_with fail
  have z1 := H1.out.size
  refine calls_world (fun w2 => Keep (· < w1.heap.size) w1 w2 ∧ Cells w2 (fun _ => True) (.slice (some ⟨w1.heap.size, 0, none⟩) 1 1) [.slice ka kn kc]) ⟨(Keep.refl _ _).alloc _ (fun _ h => h), cells_made w1 32 (fun _ => True) [.slice ka kn kc] trivial (by simp)⟩ ?_
  rintro w2 ⟨k2, c2⟩
  have kw2 := H1.out.trans (k2.mono (fun b h => Nat.lt_of_lt_of_le h z1))
  have e2 := errs_at (HE.out.1.keep kw2 (fun _ h => h)) 0 _ rfl
  refine (wnew_walk _ [.slice ka kn kc] [key] (errV xs 1) w2 _ _ (by intro k hk; simp only [List.mem_singleton] at hk; rw [hk]; have := HL.out; omega) c2 (Rws.cons (HK.out.keep kw2 (fun _ h => h)) (Rws.nil _ _)) e2.1 e2.2).mono ?_
  rintro e w3 ⟨h3 | h3, k3⟩
  case' inr =>
    exfalso
    have := h3.1
    rw [(okKeys_iff [key]).2 ⟨by simp, by simp, fun k hk => by simp only [List.mem_singleton] at hk; rw [hk]; exact ⟨HL.out.1, HL.out.2.1⟩⟩] at this
    cases this
  obtain ⟨_, tb, g, rfl, ht⟩ := h3
  have hz2 := kw2.size
  have H3 := hid (And.intro (kw2.trans (k3.mono (fun b h => Nat.lt_of_lt_of_le h hz2))) ht)
  clear k2 k3 kw2 c2 e2 ht
  go_wp2_with fail
  have e3 := errs_at (HE.out.1.keep H3.out.1 (fun _ h => h)) 10 _ rfl
  refine (get_bad _ b (errV xs 11) w3 _ Hb.out (HB.out.keep H3.out.1 (fun _ h => h)) hfr.out e3.1 e3.2).mono ?_
  rintro e w4 ⟨rfl, k4⟩
  have H4 := hid (And.intro (H3.out.1.trans (k4.mono (fun b h => Nat.lt_of_lt_of_le h H3.out.1.size))) (H3.out.2.keep k4 (fun b _ h => Nat.lt_of_lt_of_le h H3.out.2.lt.2.2.2.2.2)))
  clear k4 H3 e3
  have hi := frC_size zeros32_length 0 0 (.slice none 0 0)
  have h1 := frC_one 0 0 zeros32 (.slice none 0 0) rfl
  go_upto_region 9 with (refine wpList_store_row rfl 49 (.tmp 7) (.tmp 41) rfl w4.heap.size (frC 0 0 zeros32 (.slice none 0 0)).toArray rfl rfl 49 _ (heap_alloc_new w4 _) hi rfl h1 ?_)
  refine wp_world (fun w5 => Keep (· < w4.heap.size) w4 w5) (((Keep.refl _ _).alloc _ (fun _ h => h)).setRow _ (by simp)) ?_
  intro w5 k5
  have H5 := hid (And.intro (H4.out.1.trans (k5.mono (fun b h => Nat.lt_of_lt_of_le h H4.out.1.size))) (H4.out.2.keep k5 (fun b _ h => Nat.lt_of_lt_of_le h H4.out.2.lt.2.2.2.2.2)))
  clear k5 H4
  go_wp2_with fail
  refine (open_bad tb _ _ g [key] [0] xs _ b w5 _ Hb.out hfr.out (HE.out.1.keep H5.out.1 (fun _ h => h)) H5.out.2 (HB.out.keep H5.out.1 (fun _ h => h))).mono ?_
  rintro e w6 ⟨bv6, he6, _, ht6, k6⟩
  have hno : openNo [key] [0] b = 11 := by unfold openNo; rw [if_pos hfr.out]
  have hla : openLasts [key] [0] b = [0] := by unfold openLasts; rw [hno]; rfl
  have hof : openF b bv6 = frC 0 0 zeros32 (.slice none 0 0) := by unfold openF; rw [hfr.out]; rfl
  rw [hno, hof] at he6
  rw [hla] at ht6
  subst he6
  have zg := H5.out.2.lt
  have hz5 := H5.out.1.size
  have H6 := hid (And.intro (H5.out.1.trans (k6.mono (fun b (h : b < w.heap.size) => by omega))) ht6)
  clear k6 ht6 hno hla hof zg hz5 H5
  go_upto_region 10 with (refine wpList_store_row rfl 49 (.tmp 9) (.tmp 47) rfl w6.heap.size (frC 0 0 zeros32 (.slice none 0 0)).toArray rfl rfl 49 _ (heap_alloc_new w6 _) hi rfl h1 ?_)
  refine wp_world (fun w7 => Keep (· < w6.heap.size) w6 w7) (((Keep.refl _ _).alloc _ (fun _ h => h)).setRow _ (by simp)) ?_
  intro w7 k7
  have H7 := hid (And.intro (H6.out.1.trans (k7.mono (fun b h => Nat.lt_of_lt_of_le h H6.out.1.size))) (H6.out.2.keep k7 (fun b _ h => Nat.lt_of_lt_of_le h H6.out.2.lt.2.2.2.2.2)))
  clear k7 H6
  go_wp2_with fail
  refine (num_err xs 11 w7 (by decide) (HE.out.1.keep H7.out.1 (fun _ h => h)) HE.out.2).mono ?_
  rintro e w8 ⟨rfl, k8⟩
  have H8 := hid (And.intro (H7.out.1.trans (k8.mono (fun b h => Nat.lt_of_lt_of_le h H7.out.1.size))) (H7.out.2.keep k8 (fun b _ h => Nat.lt_of_lt_of_le h H7.out.2.lt.2.2.2.2.2)))
  clear k8 H7
  go_wp2_with fail
  refine (num_err xs 11 w8 (by decide) (HE.out.1.keep H8.out.1 (fun _ h => h)) HE.out.2).mono ?_
  rintro e w9 ⟨rfl, k9⟩
  have H9 := hid (And.intro (H8.out.1.trans (k9.mono (fun b h => Nat.lt_of_lt_of_le h H8.out.1.size))) (H8.out.2.keep k9 (fun b _ h => Nat.lt_of_lt_of_le h H8.out.2.lt.2.2.2.2.2)))
  clear k9 H8
  go_wp2_with fail
  refine (last_in tb 0 _ _ g [key] [0] w9 (by simp) H9.out.2).mono ?_
  rintro e w10 ⟨rfl, rfl⟩
  go_wp2_with fail
  go_ret
  exact ⟨rfl, H9.out.1⟩
end Go.Proofs.YtnpneippahdigaaDoor
