/-
  Step by step: clock.Get, clock.Join.
-/
import Derived.Test.YtalihehmbiohlaaDoorTxt4
import Derived.Test.YtalihehmbiohlaaDoorOrdC
import Derived.Test.YtalihehmbiohlaaDoorProg
import Derived.Deep.QuietTactic
import Derived.Deep.DeepCutAuto
namespace Go.Proofs.YtalihehmbiohlaaDoor
open Go.RowKit Go.Proofs.Mem Go.Proofs.Txt Go.Proofs.Ord

set_option maxRecDepth 100000 in
set_option maxHeartbeats 1000000 in
theorem get_walk (v : Value) (xs : List Nat) (g : Int) (w : World) (p : Nat → Prop) (hv : Cells w p v (ints .i64 xs)) :
    Calls Tryd.prog 33 #[v, .int .i64 g] w fun e w' => e = .returned (.int .i64 (if g < 0 then 0 else (xs.getD g.toNat 0 : Nat))) ∧ Keep (fun _ => True) w w' := by
  have HV := hid hv
  obtain ⟨a1, n1, c1, rfl, e1, m1, q1, hc⟩ := hv
  rw [ints_length] at e1
  subst e1
  have HC := hid hc
  have q1' : c1 ≤ 9223372036854775807 := by simpa [maxLen] using q1
  clear q1 hc
  go_enter Tryd.func33, Tryd.ntmps33
  by_cases h0 : g < 0
  · have d0 : decide (g < 0) = true := by simp [h0]
    rw [if_pos h0]
    clear h0
    go_wp2_with fail
    go_ret
    exact ⟨rfl, Keep.refl _ _⟩
  · have d0 : decide (g < 0) = false := by simp [h0]
    rw [if_neg h0]
    obtain ⟨k, rfl⟩ : ∃ k : Nat, g = (k : Int) := ⟨g.toNat, by omega⟩
    rw [Int.toNat_natCast]
    clear h0
    by_cases h1 : k < xs.length
    · have d1 : decide (xs.length ≤ k) = false := by simp; omega
      obtain ⟨b, o, ha, _, hcc⟩ := HC.out (by omega)
      subst ha
      have l0 : (k : Int) < (xs.length : Int) := by omega
      have hk := hcc k h1
      rw [ints_get _ _ _ h1] at hk
      obtain ⟨z, hz⟩ : ∃ z, xs.getD k 0 = z := ⟨_, rfl⟩
      rw [hz] at hk ⊢
      clear hcc h1 hz
      go_wp2_with fail
      go_ret
      exact ⟨rfl, Keep.refl _ _⟩
    · have d1 : decide (xs.length ≤ k) = true := by simp; omega
      have hz : xs.getD k 0 = 0 := by rw [List.getD_eq_getElem?_getD, List.getElem?_eq_none (by omega)]; rfl
      rw [hz]
      clear h1 hz
      go_wp2_with fail
      go_ret
      exact ⟨rfl, Keep.refl _ _⟩

theorem get_nat (v : Value) (xs : List Nat) (g : Nat) (w : World) (p : Nat → Prop) (hv : Cells w p v (ints .i64 xs)) :
    Calls Tryd.prog 33 #[v, .int .i64 (g : Int)] w fun e w' => e = .returned (.int .i64 ((xs.getD g 0 : Nat) : Int)) ∧ Keep (fun _ => True) w w' := by
  have := get_walk v xs g w p hv
  rwa [if_neg (by omega), Int.toNat_natCast] at this

theorem max_walk (x y : Nat) (w : World) :
    Calls Tryd.prog 49 #[.int .i64 (x : Int), .int .i64 (y : Int)] w fun e w' => e = .returned (.int .i64 ((max x y : Nat) : Int)) ∧ Keep (fun _ => True) w w' := by
  obtain ⟨m, hm⟩ : ∃ m, max x y = m := ⟨_, rfl⟩
  rw [hm]
  have HM := hid hm
  clear hm
  go_enter Tryd.func49, Tryd.ntmps49
  by_cases h : y ≤ x
  · have hi : (y : Int) ≤ (x : Int) := by omega
    go_wp2_with fail
    go_ret
    exact ⟨by rw [← HM.out, Nat.max_eq_left h]; rfl, Keep.refl _ _⟩
  · have hi : ¬ (y : Int) ≤ (x : Int) := by omega
    go_wp2_with fail
    go_ret
    exact ⟨by rw [← HM.out, Nat.max_eq_right (by omega)]; rfl, Keep.refl _ _⟩

theorem int_info : ∃ i0, Tryd.prog.info? 3 = some i0 ∧ i0.zero = some (.int .i64 0) ∧ i0.size = 1 ∧ i0.bytes = 8 := by
  obtain ⟨i0, h1, h2, h3, h4⟩ := info_parts (show (Tryd.prog.info? 3).map (fun i => (i.zero, i.size, i.bytes)) = some (some (.int .i64 0), 1, 8) by kernel_rfl)
  exact ⟨i0, h1, h2, h3, h4⟩
/-- append of a count onto a row of its own, with the row that holds it. -/
theorem nat_append_one (w : World) (ty : TypeId) (v : Value) (n : Nat) (zs : List Nat) (hown : Row w 3 v (ints .i64 zs)) (hl : zs.length ≤ 1000000) :
    ∃ v' w', (Builtin.append_ #[32, 32] ty #[v, .slice (some ⟨w.heap.size, 0, none⟩) 1 1]).run Tryd.prog (w.alloc (.cells #[.int .i64 (n : Int)] 3)) = .ok v' w' ∧
      (Row w' 3 v' (ints .i64 (zs ++ [n])) ∧ Keep (fun k => k < w.heap.size ∧ v.ownBlock ≠ some k) w w' ∧ ∀ k, v'.ownBlock = some k → v.ownBlock = some k ∨ w.heap.size ≤ k) := by
  obtain ⟨i0, hi0, hz0, hs0, hb0⟩ := int_info
  have := append_at_one (P := Tryd.prog) 32 3 i0 (.int .i64 0) 8 Tryd.underlying32 hi0 hz0 hs0 hb0 rfl w ty v (.int .i64 n) _ hown rfl (by rw [ints_length]; omega) (by rw [ints_length]; omega)
  rw [ints_append]
  exact this

theorem cells_blk {w : World} {p : Nat → Prop} {a : Option Addr} {n c : Nat} {cs : List Value} (h : Cells w p (.slice a n c) cs) (h0 : 0 < cs.length) :
    ∃ blk off, a = some ⟨blk, off, none⟩ ∧ p blk ∧ ∀ i, i < cs.length → w.cell? ⟨blk, off + i, none⟩ = cs[i]? := by
  obtain ⟨a', len, cap, e, h1, _, _, h4⟩ := h
  cases e
  subst h1
  exact h4 h0
theorem cells_take {w : World} {p : Nat → Prop} {a : Option Addr} {len cap : Nat} {cs : List Value} (h : Cells w p (.slice a len cap) cs) (n : Nat) (hn : n ≤ cs.length) : Cells w p (.slice a n cap) (cs.take n) := by
  obtain ⟨a', len', cap', e, h1, h2, h3, h4⟩ := h
  cases e
  subst h1
  refine ⟨a, n, cap, rfl, by rw [List.length_take]; omega, by omega, h3, fun h0 => ?_⟩
  obtain ⟨blk, off, ha, hp, hc⟩ := h4 (by omega)
  refine ⟨blk, off, ha, hp, fun i hi => ?_⟩
  rw [hc i (by omega), List.getElem?_take, if_pos (by omega)]

set_option maxRecDepth 100000 in
set_option maxHeartbeats 4000000 in
theorem merge_walk (u v : Value) (xs ys : List Nat) (w : World) (p q : Nat → Prop) (hu : Cells w p u (ints .i64 xs)) (hv : Cells w q v (ints .i64 ys)) (hx : xs.length ≤ 1000) (hy : ys.length ≤ 1000) :
    Calls Tryd.prog 48 #[u, v, .func (.func 49) #[] #[]] w fun e w' => ∃ r, e = .returned r ∧ Cells w' (fun b => w.heap.size ≤ b) r (ints .i64 (trim (joinL xs ys))) ∧ Keep (· < w.heap.size) w w' := by
  have HU := hid hu.lt
  have HV := hid hv.lt
  obtain ⟨a1, n1, c1, rfl, e1, m1, q1, hu4⟩ := hu
  obtain ⟨a2, n2, c2, rfl, e2, m2, q2, hv4⟩ := hv
  rw [ints_length] at e1 e2
  subst e1 e2
  clear hu4 hv4
  have q1' : c1 ≤ 9223372036854775807 := by simpa [maxLen] using q1
  have q2' : c2 ≤ 9223372036854775807 := by simpa [maxLen] using q2
  obtain ⟨N, hN⟩ : ∃ N, max xs.length ys.length = N := ⟨_, rfl⟩
  have HN := hid hN
  have hN1 : N ≤ 1000 := by omega
  clear q1 q2 hN
  go_enter Tryd.func48, Tryd.ntmps48
  by_cases hle : ys.length ≤ xs.length
  case' pos =>
    have eN : xs.length = N := by have := HN.out; omega
    go_wp2_with fail
  case' neg =>
    have eN : ys.length = N := by have := HN.out; omega
    go_wp2_with fail
  all_goals
    have EN := hid eN
    clear hle eN
    go_loopg [7, 14] N (fun k s7 s14 wr => ∃ i : Nat, i + k = N ∧ s14 = .int .i64 (i : Int) ∧ Row wr 3 s7 (ints .i64 ((joinL xs ys).take i)) ∧ (∀ b, s7.ownBlock = some b → w.heap.size ≤ b) ∧ Keep (· < w.heap.size) w wr)
    case atStart => exact ⟨0, by omega, rfl, Row.nil _ _, fun b hb => by (cases hb), Keep.refl _ _⟩
    case round =>
      obtain ⟨i, hik, rfl, hrow, hown, hk⟩ := hrel
      by_cases hlt : i < N
      · have l0 : decide ((i : Int) < (N : Int)) = true := by simp; omega
        have HR := hid (And.intro hrow (And.intro hown (And.intro hk (And.intro hik hlt))))
        obtain ⟨ra, rc, rfl⟩ := hrow.form
        obtain ⟨L, hL⟩ : ∃ L, (ints .i64 ((joinL xs ys).take i)).length = L := ⟨_, rfl⟩
        rw [hL] at HR
        have HL := hid hL
        obtain ⟨x, hx0⟩ : ∃ x, xs.getD i 0 = x := ⟨_, rfl⟩
        obtain ⟨y, hy0⟩ : ∃ y, ys.getD i 0 = y := ⟨_, rfl⟩
        obtain ⟨m, hm0⟩ : ∃ m, max x y = m := ⟨_, rfl⟩
        have HX := hid (And.intro hx0 (And.intro hy0 hm0))
        rw [hL]
        clear hrow hown hk hik hL hx0 hy0 hm0
        go_wp2_with fail
        refine (get_nat _ xs i wr _ (HU.out.keep HR.out.2.2.1 (fun _ h => h.1))).mono ?_
        rintro e w1 ⟨rfl, k1⟩
        have K1 := hid k1
        clear k1
        rw [HX.out.1]
        go_wp2_with fail
        refine (get_nat _ ys i w1 _ ((HV.out.keep HR.out.2.2.1 (fun _ h => h.1)).keep K1.out (fun _ _ => trivial))).mono ?_
        rintro e w2 ⟨rfl, k2⟩
        have K2 := hid (K1.out.trans k2)
        clear k2 K1
        rw [HX.out.2.1]
        go_wp2_with fail
        refine (max_walk _ _ w2).mono ?_
        rintro e w3 ⟨rfl, k3⟩
        rw [HX.out.2.2]
        have K3 := hid (K2.out.trans k3)
        have HAP := hid (fun ty : TypeId => nat_append_one w3 ty _ m _ (HR.out.1.keep K3.out (fun _ _ => trivial)) (by have := HL.out; rw [ints_length, List.length_take] at this; have := HN.out; have := HR.out; rw [List.length_take]; omega))
        clear k3 K2
        go_wp2_with (at_builtin; refine wpList_app rfl (.tmp 17) (.tmp 26) 32 32 rfl _ (HAP.out _) ?_; rintro v5 w5 ⟨r5, k5, o5⟩; have H5 := hid (And.intro r5 (And.intro k5 o5)); clear r5 k5 o5)
        go_roundg (gk - 1)
        case measure => have := HR.out; omega
        case rel =>
          refine ⟨i + 1, by have := HR.out; omega, by go_num, ?_, fun b hb => ?_, ?_⟩
          · rw [joinL_take xs ys i (by have := HN.out; have := HR.out; omega), HX.out.1, HX.out.2.1, HX.out.2.2]
            exact H5.out.1
          · rcases H5.out.2.2 b hb with h | h
            · exact HR.out.2.1 b h
            · exact Nat.le_trans HR.out.2.2.1.size (Nat.le_trans K3.out.size h)
          · exact (HR.out.2.2.1.trans (K3.out.mono (fun _ _ => trivial))).trans (H5.out.2.1.mono (fun b (h : b < w.heap.size) => ⟨Nat.lt_of_lt_of_le h (Nat.le_trans HR.out.2.2.1.size K3.out.size), fun e => by have := HR.out.2.1 b e; omega⟩))
      · obtain rfl : i = N := by omega
        rw [List.take_of_length_le (by rw [joinL_length]; have := HN.out; omega)] at hrow
        obtain ⟨A, hA⟩ : ∃ A, joinL xs ys = A := ⟨_, rfl⟩
        rw [hA] at hrow
        have HA := hid hA
        have hcl := hrow.cells
        obtain ⟨ra, rc, rfl⟩ := hrow.form
        rw [ints_length] at hcl hown ⊢
        have HC := hid (hcl.mono hown)
        have hrc1 : A.length ≤ rc := by obtain ⟨_, _, _, e, h1, h2, _, _⟩ := hcl; cases e; exact h2
        have hrc2 : rc ≤ 9223372036854775807 := by obtain ⟨_, _, _, e, h1, _, h3, _⟩ := hcl; cases e; simpa [maxLen] using h3
        have HK := hid hk
        clear hrow hown hk hik hlt hA hcl
        have hA1 : A.length ≤ 1000 := by have := HA.out; rw [← this, joinL_length]; omega
        go_wp2_with fail
        obtain ⟨wo, rfl⟩ : ∃ wo : World, wo = wr := ⟨_, rfl⟩
        go_loopg [7] A.length (fun k s7 wx => k ≤ A.length ∧ s7 = .slice ra k rc ∧ trim (A.take k) = trim A ∧ wx = wo)
        case atStart => exact ⟨Nat.le_refl _, rfl, by rw [List.take_length], rfl⟩
        case round =>
          obtain ⟨hkA, rfl, ht, rfl⟩ := hrel
          have HT := hid ht
          clear ht
          by_cases h0 : 0 < gk
          · have d0 : decide ((gk : Int) > 0) = true := by simp; omega
            obtain ⟨n, rfl⟩ : ∃ n, gk = n + 1 := ⟨gk - 1, by omega⟩
            obtain ⟨blk, off, hra, _, hcc⟩ := cells_blk HC.out (by rw [ints_length]; omega)
            subst hra
            obtain ⟨z, hz⟩ : ∃ z, A.getD n 0 = z := ⟨_, rfl⟩
            have cz : wr.cell? ⟨blk, off + n, none⟩ = some (.int .i64 (z : Int)) := by rw [hcc n (by rw [ints_length]; omega), ints_get _ _ _ (by omega), hz]
            have hTk : A.take (n + 1) = A.take n ++ [z] := by
              rw [List.take_succ_eq_append_getElem (by omega)]
              congr 2
              rwa [List.getD_eq_getElem?_getD, List.getElem?_eq_getElem (by omega)] at hz
            have HTK := hid hTk
            clear hcc hTk hz h0
            by_cases hz0 : z = 0
            · subst hz0
              have hn2 : (n : Int) ≤ (rc : Int) := by omega
              have hn3 : ¬ rc = 0 := by omega
              go_wp2_with fail
              go_roundg n
              case measure => omega
              case rel => exact ⟨by omega, rfl, by rw [← HT.out, HTK.out, trim_snoc], rfl⟩
            · have z0 : ((z : Int) == 0) = false := by simp; omega
              have HZ := hid hz0
              clear hz0
              go_wp2_with fail
              go_ret
              refine ⟨_, rfl, ?_, HK.out⟩
              rw [HA.out, ← HT.out, HTK.out, trim_full _ _ HZ.out, ← HTK.out, ← ints_take]
              exact cells_take HC.out _ (by rw [ints_length]; omega)
          · obtain rfl : gk = 0 := by omega
            go_wp2_with fail
            go_ret
            refine ⟨_, rfl, ?_, HK.out⟩
            rw [HA.out, ← HT.out, List.take_zero]
            exact cells_take HC.out 0 (Nat.zero_le _)

theorem join_walk (u v : Value) (K L : Nat → Nat) (w : World) (p q : Nat → Prop) (hu : Cells w p u (ints .i64 (short K))) (hv : Cells w q v (ints .i64 (short L))) :
    Calls Tryd.prog 37 #[u, v] w fun e w' => ∃ r, e = .returned r ∧ Cells w' (fun b => w.heap.size ≤ b) r (ints .i64 (short (join K L))) ∧ Keep (· < w.heap.size) w w' := by
  have HM := hid (merge_walk u v _ _ w p q hu hv (Nat.le_trans (short_length K) (by decide)) (Nat.le_trans (short_length L) (by decide)))
  rw [trim_join] at HM
  clear hu hv
  go_enter Tryd.func37, Tryd.ntmps37
  go_wp2_with fail
  refine HM.out.mono ?_
  rintro e w1 ⟨r, rfl, h1, h2⟩
  have H := hid (And.intro h1 h2)
  clear h1 h2
  go_wp2_with fail
  go_ret
  exact ⟨_, rfl, H.out⟩
end Go.Proofs.YtalihehmbiohlaaDoor
