/-
  Step by step: the reference's tag.
-/
import Derived.Test.YtnpneippahdigaaDoorRefOf
import Derived.Test.YtnpneippahdigaaDoorTag2
import Derived.Test.YtnpneippahdigaaDoorMem
namespace Go.Proofs.YtnpneippahdigaaDoor
open Go.RowKit Go.Proofs.Mem

theorem tag_of (key xs : List Nat) : Sha.tag key xs = Sha.of ((Sha.pad key).map (· ^^^ 92) ++ Sha.of ((Sha.pad key).map (· ^^^ 54) ++ xs)) := by
  unfold Sha.tag Sha.of Sha.inner Sha.outer
  rw [Sha.take_append, Sha.take_append]
theorem pad_get (key kk : List Nat) (hkk : (if key.length > 64 then Sha.of key else key) = kk) (i : Nat) : (Sha.pad key).getD i 0 = if i < kk.length then kk.getD i 0 else 0 := by
  unfold Sha.pad
  simp only
  rw [hkk, List.getD_eq_getElem?_getD]
  split
  · rename_i h
    rw [List.getElem?_append_left h, List.getD_eq_getElem?_getD]
  · rename_i h
    rw [List.getElem?_append_right (by omega), List.getElem?_replicate]
    split <;> rfl

set_option maxRecDepth 100000 in
set_option maxHeartbeats 4000000 in
theorem reftag_walk (hb : Nat) (u v : Value) (key xs : List Nat) (w : World) (p p' : Nat → Prop) (hkl : key.length ≤ 1099511627776) (hxl : xs.length ≤ 1099511627000) (hk : ∀ x ∈ key, x < 256) (hx : ∀ x ∈ xs, x < 256) (hW : WordsAt w hb Sha.St.new.ws Sha.turns) (hu : Cells w p u (ints .u8 key)) (hv : Cells w p' v (ints .u8 xs)) :
    Calls Tryd.prog 47 #[.pointer (some ⟨hb, 0, none⟩), u, v] w fun e w' => ∃ r, e = .returned r ∧ Keep (· < w.heap.size) w w' ∧ Cells w' (fun k => w.heap.size ≤ k) r (ints .u8 (Sha.tag key xs)) := by
  have HW := hid hW
  have Hu := hid (hu.lt.mono (fun _ h => h.1))
  have Hv := hid (hv.lt.mono (fun _ h => h.1))
  have HX := hid hx
  have HKb := hid hk
  have hbz := hW.lt
  clear hW hu hv hx hk
  obtain ⟨a1, n1, c1, rfl, e1, m1, q1, _⟩ := Hu.out
  obtain ⟨a2, n2, c2, rfl, e2, m2, q2, _⟩ := Hv.out
  rw [ints_length] at e1 e2
  have e1' := e1.symm
  have e2' := e2.symm
  clear e1 e2
  have q1' : c1 ≤ 9223372036854775807 := by simpa [maxLen] using q1
  have q2' : c2 ≤ 9223372036854775807 := by simpa [maxLen] using q2
  have hn1 : n1 ≤ 1099511627776 := by omega
  have HL := hid (And.intro e1' e2')
  clear q1 q2 e1' e2'
  obtain ⟨kk, hkk⟩ : ∃ kk, (if key.length > 64 then Sha.of key else key) = kk := ⟨_, rfl⟩
  have HKK := hid hkk
  clear hkk
  obtain ⟨i0, hi0, hz0, hs0, hb0⟩ := info_parts (show (Tryd.prog.info? 5).map (fun i => (i.zero, i.size, i.bytes)) = some (some (.int .u8 0), 1, 1) by kernel_rfl)
  go_enter Tryd.func47, Tryd.ntmps47
  go_upto_if 13 with fail
  go_cut [1] (fun s1 wx => Cells wx (fun k => k < wx.heap.size) s1 (ints .u8 kk) ∧ kk.length ≤ 64 ∧ Keep (· < w.heap.size) w wx)
  case first =>
    by_cases h64 : 64 < n1
    · have t1 : decide ((64 : Int) < (n1 : Int)) = true := by simp; omega
      go_wp2_with fail
      refine (refof_walk hb _ key w _ hkl HKb.out HW.out Hu.out).mono ?_
      rintro e w1 ⟨v1, rfl, k1, h1⟩
      have H1 := hid (And.intro k1 h1)
      clear k1 h1
      go_wp2_with fail
      go_meet
      case rel =>
        have ek : kk = Sha.of key := by rw [← HKK.out, if_pos (by rw [HL.out.1]; exact h64)]
        rw [ek]
        exact ⟨H1.out.2.lt.mono (fun k h => h.1), by rw [of_length HKb.out]; decide, H1.out.1⟩
    · have t1 : decide ((64 : Int) < (n1 : Int)) = false := by simp; omega
      go_wp2_with fail
      go_meet
      case rel =>
        have ek : kk = key := by rw [← HKK.out, if_neg (by rw [HL.out.1]; exact h64)]
        rw [ek]
        exact ⟨Hu.out, by rw [HL.out.1]; omega, Keep.refl _ _⟩
  case rest =>
    obtain ⟨hc, hk64, hk⟩ := hcut
    have HC := hid (And.intro hc hk)
    clear hc hk
    obtain ⟨ka, kn, kc, rfl, hkn, hkm, hkx, hkcell⟩ := HC.out.1
    rw [ints_length] at hkn
    have hkn' := hkn.symm
    have hkc : kc ≤ 9223372036854775807 := by simpa [maxLen] using hkx
    have HKN := hid hkn'
    have hkn64 : kn ≤ 64 := by omega
    clear hkn hkx hkcell hkn'
    obtain ⟨P, hP⟩ : ∃ P, Sha.pad key = P := ⟨_, rfl⟩
    have hPl : P.length = 64 := by rw [← hP]; exact pad_length key HKb.out
    have hPb : ∀ x ∈ P, x < 256 := by rw [← hP]; exact pad_lt key HKb.out
    have hPg : ∀ i, P.getD i 0 = if i < kk.length then kk.getD i 0 else 0 := by rw [← hP]; exact pad_get key kk HKK.out
    have HP := hid (And.intro hP (And.intro hPb hPg))
    clear hP hPb hPg
    go_wp2_with fail
    refine wp_world (fun w2 => Row w2 5 (.slice (some ⟨wc.heap.size, 0, none⟩) 0 0) (ints .u8 ((P.map (· ^^^ 54)).take 0)) ∧ Row w2 5 (.slice (some ⟨wc.heap.size + 1, 0, none⟩) 0 0) (ints .u8 ((P.map (· ^^^ 92)).take 0)) ∧ Keep (· < wc.heap.size) wc w2) ⟨?_, ?_, ((Keep.refl _ _).alloc _ (fun _ h => h)).alloc _ (fun k h => by simp; omega)⟩ ?_
    · have h0 : Row (wc.alloc (.cells #[] 5)) 5 (.slice (some ⟨wc.heap.size, 0, none⟩) 0 0) [] := owns_empty wc 0 5 (Nat.zero_le _)
      exact Row.keep h0 ((Keep.refl (· < wc.heap.size + 1) _).alloc _ (fun k h => by simpa using h)) (fun k hk => by simp [Value.ownBlock] at hk; omega)
    · have := owns_empty (wc.alloc (.cells #[] 5)) 0 5 (Nat.zero_le _)
      simp only [World.size_alloc] at this
      exact this
    rintro w2 ⟨ra, rc, k2⟩
    obtain ⟨B, hB⟩ : ∃ B, wc.heap.size = B := ⟨_, rfl⟩
    have hwB : w.heap.size ≤ B := by rw [← hB]; exact HC.out.2.size
    rw [hB] at ra rc k2 ⊢
    have H2 := hid (And.intro ra (And.intro rc k2))
    have z2 := k2.size
    clear ra rc k2
    go_loopg [7, 8, 9] 64 (fun k s7 s8 s9 wr => ∃ i, i + k = 64 ∧ s9 = .int .i64 (i : Int) ∧ Row wr 5 s7 (ints .u8 ((P.map (· ^^^ 54)).take i)) ∧ Row wr 5 s8 (ints .u8 ((P.map (· ^^^ 92)).take i)) ∧ (∀ k, s7.ownBlock = some k → B ≤ k ∧ s8.ownBlock ≠ some k) ∧ (∀ k, s8.ownBlock = some k → B ≤ k) ∧ Keep (· < B) wc wr ∧ B ≤ wr.heap.size)
    case atStart => exact ⟨0, rfl, rfl, H2.out.1, H2.out.2.1, fun k hk => by simp [Value.ownBlock] at hk ⊢; omega, fun k hk => by simp [Value.ownBlock] at hk; omega, H2.out.2.2, by omega⟩
    case round =>
      clear H2
      obtain ⟨i, hi, rfl, hra, hrc, hd1, hd2, hk, hzr⟩ := hrel
      have HH := hid (And.intro hra (And.intro hrc (And.intro hd1 (And.intro hd2 hk))))
      clear hra hrc hd1 hd2 hk
      by_cases hi64 : i < 64
      · obtain ⟨x, hxx⟩ : ∃ x, P.getD i 0 = x := ⟨_, rfl⟩
        have hxb : x < 256 := by
          rw [← hxx]
          exact HP.out.2.1 _ (by rw [List.getD_eq_getElem?_getD, List.getElem?_eq_getElem (by omega)]; exact List.getElem_mem _)
        have v1 : bits .xor .u8 (x : Int) 54 = ((x ^^^ 54 : Nat) : Int) := u8_xor_nat x 54 hxb (by decide)
        have v2 : bits .xor .u8 (x : Int) 92 = ((x ^^^ 92 : Nat) : Int) := u8_xor_nat x 92 hxb (by decide)
        obtain ⟨ya, hya⟩ : ∃ y, x ^^^ 54 = y := ⟨_, rfl⟩
        obtain ⟨yc, hyc⟩ : ∃ y, x ^^^ 92 = y := ⟨_, rfl⟩
        rw [hya] at v1
        rw [hyc] at v2
        have e54 : (P.map (· ^^^ 54)).take (i + 1) = (P.map (· ^^^ 54)).take i ++ [ya] := by
          rw [← take_snoc' _ i (by rw [List.length_map]; omega), List.getD_eq_getElem?_getD, List.getElem?_map, List.getElem?_eq_getElem (by omega), ← hya, ← hxx, List.getD_eq_getElem?_getD, List.getElem?_eq_getElem (by omega)]
          rfl
        have e92 : (P.map (· ^^^ 92)).take (i + 1) = (P.map (· ^^^ 92)).take i ++ [yc] := by
          rw [← take_snoc' _ i (by rw [List.length_map]; omega), List.getD_eq_getElem?_getD, List.getElem?_map, List.getElem?_eq_getElem (by omega), ← hyc, ← hxx, List.getD_eq_getElem?_getD, List.getElem?_eq_getElem (by omega)]
          rfl
        have HE := hid (And.intro e54 e92)
        have HXX := hid hxx
        have la : (ints .u8 ((P.map (· ^^^ 54)).take i)).length ≤ 64 := by rw [ints_length, List.length_take]; omega
        have lc : (ints .u8 ((P.map (· ^^^ 92)).take i)).length ≤ 64 := by rw [ints_length, List.length_take]; omega
        have HA := hid (append_at_one (P := Tryd.prog) 32 5 i0 (.int .u8 0) 1 Tryd.underlying32 hi0 hz0 hs0 hb0 rfl wr 32 _ (.int .u8 (ya : Int)) _ HH.out.1 rfl (by omega) (by omega))
        have HB := hid (fun (w3 : World) (h : Row w3 5 u8 (ints .u8 ((P.map (· ^^^ 92)).take i))) => append_at_one (P := Tryd.prog) 32 5 i0 (.int .u8 0) 1 Tryd.underlying32 hi0 hz0 hs0 hb0 rfl w3 32 _ (.int .u8 (yc : Int)) _ h rfl (by omega) (by omega))
        have HYA := hid (And.intro hya hyc)
        clear hya hyc hxx e54 e92 la lc
        have l0 : (i : Int) < 64 := by omega
        by_cases hik : i < kn
        · have t1 : decide ((i : Int) < (kn : Int)) = true := by simp; omega
          have l1 : (i : Int) < (kn : Int) := by omega
          obtain ⟨kb, ko, kcap, eq, _, _, hp, hcl⟩ := HC.out.1.at_ (by rw [ints_length, HKN.out]; omega)
          injection eq with eq1 eq2 eq3
          subst eq1
          have cx : wr.cell? ⟨kb, ko + i, none⟩ = some (.int .u8 (x : Nat)) := by
            rw [HH.out.2.2.2.2.cell (x := ⟨kb, ko + i, none⟩) (by show kb < B; omega), hcl i (by rw [ints_length, HKN.out]; exact hik), ints_get _ _ _ (by rw [HKN.out]; exact hik)]
            have := HP.out.2.2 i
            rw [if_pos (by rw [HKN.out]; exact hik), HXX.out] at this
            rw [← this]
          clear eq2 eq3 hcl
          go_wp2_with (first
            | (at_builtin; refine wpList_app rfl (.tmp 31) (.tmp 34) 32 32 rfl _ HA.out ?_; rintro v3 w3 ⟨r3, k3, o3⟩; have hc3 : Row w3 5 u8 (ints .u8 ((P.map (· ^^^ 92)).take i)) := HH.out.2.1.keep k3 (fun k hk => ⟨HH.out.2.1.lt hk, fun h => (HH.out.2.2.1 k h).2 hk⟩))
            | (at_builtin; refine wpList_app rfl (.tmp 36) (.tmp 39) 32 32 rfl _ (HB.out w3 hc3) ?_; rintro v4 w4 ⟨r4, k4, o4⟩))
          go_roundg (gk - 1)
          case measure => omega
          case rel =>
            have hz3 := k3.size
            refine ⟨i + 1, by omega, by go_num, ?_, ?_, fun k hk => ?_, fun k hk => ?_, HH.out.2.2.2.2.trans ((k3.mono (fun k h => ⟨by omega, fun h' => by have := (HH.out.2.2.1 k h').1; omega⟩)).trans (k4.mono (fun k h => ⟨by omega, fun h' => by have := HH.out.2.2.2.1 k h'; omega⟩))), by have := k4.size; omega⟩
            · rw [HE.out.1, ints_append]
              refine Row.keep r3 k4 (fun k hk => ⟨r3.lt hk, fun h => ?_⟩)
              rcases o3 k hk with h3 | h3
              · exact (HH.out.2.2.1 k h3).2 h
              · have := HH.out.2.1.lt h; omega
            · rw [HE.out.2, ints_append]
              exact r4
            · rcases o3 k hk with h3 | h3
              · refine ⟨(HH.out.2.2.1 k h3).1, fun h => ?_⟩
                rcases o4 k h with h4 | h4
                · exact (HH.out.2.2.1 k h3).2 h4
                · have := r3.lt hk; omega
              · refine ⟨by omega, fun h => ?_⟩
                rcases o4 k h with h4 | h4
                · have := HH.out.2.1.lt h4; omega
                · have := r3.lt hk; omega
            · rcases o4 k hk with h4 | h4
              · exact HH.out.2.2.2.1 k h4
              · omega
        · have t1 : decide ((i : Int) < (kn : Int)) = false := by simp; omega
          have hx0 : x = 0 := by
            have := HP.out.2.2 i
            rw [if_neg (by rw [HKN.out]; exact hik), HXX.out] at this
            exact this
          have ea : ya = 54 := by rw [← HYA.out.1, hx0]; rfl
          have ec : yc = 92 := by rw [← HYA.out.2, hx0]; rfl
          subst ea
          subst ec
          clear v1 v2 HXX hx0 hxb
          go_wp2_with (first
            | (at_builtin; refine wpList_app rfl (.tmp 31) (.tmp 34) 32 32 rfl _ HA.out ?_; rintro v3 w3 ⟨r3, k3, o3⟩; have hc3 : Row w3 5 u8 (ints .u8 ((P.map (· ^^^ 92)).take i)) := HH.out.2.1.keep k3 (fun k hk => ⟨HH.out.2.1.lt hk, fun h => (HH.out.2.2.1 k h).2 hk⟩))
            | (at_builtin; refine wpList_app rfl (.tmp 36) (.tmp 39) 32 32 rfl _ (HB.out w3 hc3) ?_; rintro v4 w4 ⟨r4, k4, o4⟩))
          go_roundg (gk - 1)
          case measure => omega
          case rel =>
            have hz3 := k3.size
            refine ⟨i + 1, by omega, by go_num, ?_, ?_, fun k hk => ?_, fun k hk => ?_, HH.out.2.2.2.2.trans ((k3.mono (fun k h => ⟨by omega, fun h' => by have := (HH.out.2.2.1 k h').1; omega⟩)).trans (k4.mono (fun k h => ⟨by omega, fun h' => by have := HH.out.2.2.2.1 k h'; omega⟩))), by have := k4.size; omega⟩
            · rw [HE.out.1, ints_append]
              refine Row.keep r3 k4 (fun k hk => ⟨r3.lt hk, fun h => ?_⟩)
              rcases o3 k hk with h3 | h3
              · exact (HH.out.2.2.1 k h3).2 h
              · have := HH.out.2.1.lt h; omega
            · rw [HE.out.2, ints_append]
              exact r4
            · rcases o3 k hk with h3 | h3
              · refine ⟨(HH.out.2.2.1 k h3).1, fun h => ?_⟩
                rcases o4 k h with h4 | h4
                · exact (HH.out.2.2.1 k h3).2 h4
                · have := r3.lt hk; omega
              · refine ⟨by omega, fun h => ?_⟩
                rcases o4 k h with h4 | h4
                · have := HH.out.2.1.lt h4; omega
                · have := r3.lt hk; omega
            · rcases o4 k hk with h4 | h4
              · exact HH.out.2.2.2.1 k h4
              · omega
      · obtain rfl : i = 64 := by omega
        have t1 : (P.map (· ^^^ 54)).take 64 = P.map (· ^^^ 54) := List.take_of_length_le (by rw [List.length_map]; omega)
        have t2 : (P.map (· ^^^ 92)).take 64 = P.map (· ^^^ 92) := List.take_of_length_le (by rw [List.length_map]; omega)
        obtain ⟨hra, hrc, hd1, hd2, hk⟩ := HH.out
        rw [t1] at hra
        rw [t2] at hrc
        obtain ⟨A, hA⟩ : ∃ A, P.map (· ^^^ 54) = A := ⟨_, rfl⟩
        obtain ⟨C, hC⟩ : ∃ C, P.map (· ^^^ 92) = C := ⟨_, rfl⟩
        have hAl : A.length = 64 := by rw [← hA, List.length_map, hPl]
        have hCl : C.length = 64 := by rw [← hC, List.length_map, hPl]
        have hAb : ∀ x ∈ A, x < 256 := by
          intro x hx
          rw [← hA] at hx
          obtain ⟨z, hz, rfl⟩ := List.mem_map.1 hx
          exact Nat.xor_lt_two_pow (n := 8) (HP.out.2.1 z hz) (by decide)
        have hCb : ∀ x ∈ C, x < 256 := by
          intro x hx
          rw [← hC] at hx
          obtain ⟨z, hz, rfl⟩ := List.mem_map.1 hx
          exact Nat.xor_lt_two_pow (n := 8) (HP.out.2.1 z hz) (by decide)
        rw [hA] at hra
        rw [hC] at hrc
        have kw : Keep (· < w.heap.size) w wr := HC.out.2.trans (hk.mono (fun k h => by omega))
        have HT : Hid (Sha.tag key xs = Sha.of (C ++ Sha.of (A ++ xs))) := by
          show _ = _
          rw [tag_of, HP.out.1, hA, hC]
        have HAC := hid (And.intro hAb hCb)
        have HR := hid (And.intro hrc (And.intro hd1 (And.intro hd2 kw)))
        have HA1 := hid (append_at (P := Tryd.prog) 32 5 i0 (.int .u8 0) 1 Tryd.underlying32 hi0 hz0 hs0 hb0 rfl wr 32 _ (.slice a2 n2 c2) _ (ints .u8 xs) hra (Hv.out.keep kw (fun _ h => h)) (ints_one _ _) (by rw [ints_length, ints_length, hAl]; omega) (by rw [ints_length, ints_length, hAl]; omega))
        have hrl := hid (fun k hk => hra.lt (k := k) hk)
        clear hra hrc hd1 hd2 hk kw hA hC t1 t2 hAb hCb HH HP
        go_wp2_with (at_builtin; refine wpList_app rfl (.tmp 44) (.tmp 45) 32 32 rfl _ HA1.out ?_; rintro v3 w3 ⟨r3, k3, o3⟩)
        have k3' : Keep (· < w.heap.size) w w3 := HR.out.2.2.2.trans (k3.mono (fun k h => ⟨by omega, fun h' => by have := (HR.out.2.1 k h').1; omega⟩))
        have rc3 : Row w3 5 u8 (ints .u8 C) := HR.out.1.keep k3 (fun k hk => ⟨HR.out.1.lt hk, fun h => (HR.out.2.1 k h).2 hk⟩)
        have z3 := k3.size
        have H3 := hid (And.intro k3' rc3)
        rw [← ints_append] at r3
        have R3 := hid r3.cells
        clear r3 k3 o3 k3' rc3 HA1
        refine (refof_walk hb _ (A ++ xs) w3 _ (by rw [List.length_append, hAl]; omega) (fun x hx => by
          rcases List.mem_append.1 hx with h | h
          · exact HAC.out.1 x h
          · exact HX.out x h) (HW.out.keep H3.out.1 (fun j _ h => h)) R3.out).mono ?_
        rintro e w4 ⟨v4, rfl, k4, h4⟩
        have hfl : (Sha.of (A ++ xs)).length = 32 := of_length (fun x hx => by
          rcases List.mem_append.1 hx with h | h
          · exact HAC.out.1 x h
          · exact HX.out x h)
        obtain ⟨F, hF⟩ : ∃ F, Sha.of (A ++ xs) = F := ⟨_, rfl⟩
        have hFb : ∀ x ∈ F, x < 256 := by rw [← hF]; exact of_lt
        rw [hF] at h4 hfl
        have HF := hid hF
        have z4 := k4.size
        have rc4 : Row w4 5 u8 (ints .u8 C) := H3.out.2.keep k4 (fun k hk => H3.out.2.lt hk)
        have H4 := hid (And.intro (H3.out.1.trans (k4.mono (fun k h => Nat.lt_of_lt_of_le h (Nat.le_trans (Nat.le_trans hwB hzr) z3)))) HR.out.2.2.1)
        have HA2 := hid (append_at (P := Tryd.prog) 32 5 i0 (.int .u8 0) 1 Tryd.underlying32 hi0 hz0 hs0 hb0 rfl w4 32 _ v4 _ (ints .u8 F) rc4 h4 (ints_one _ _) (by rw [ints_length, ints_length, hCl, hfl]; decide) (by rw [ints_length, ints_length, hCl, hfl]; decide))
        have HFB := hid hFb
        have rl4 := hid (fun k hk => rc4.lt (k := k) hk)
        clear h4 k4 rc4 hF hFb
        go_wp2_with (at_builtin; refine wpList_app rfl (.tmp 42) (.tmp 47) 32 32 rfl _ HA2.out ?_; rintro v5 w5 ⟨r5, k5, o5⟩)
        have hw4 : w.heap.size ≤ w4.heap.size := H4.out.1.size
        have k5' : Keep (· < w.heap.size) w w5 := H4.out.1.trans (k5.mono (fun k h => ⟨by omega, fun h' => by have := H4.out.2 k h'; omega⟩))
        rw [← ints_append] at r5
        have H5 := hid (And.intro k5' r5.cells)
        have z5 := k5.size
        clear r5 k5 o5 k5' HA2
        refine (refof_walk hb _ (C ++ F) w5 _ (by rw [List.length_append, hCl, hfl]; decide) (fun x hx => by
          rcases List.mem_append.1 hx with h | h
          · exact HAC.out.2 x h
          · exact HFB.out x h) (HW.out.keep H5.out.1 (fun j _ h => h)) H5.out.2).mono ?_
        rintro e w6 ⟨v6, rfl, k6, h6⟩
        have H6 := hid (And.intro (H5.out.1.trans (k6.mono (fun k h => by omega))) (h6.mono (fun k h => (show w.heap.size ≤ k by omega))))
        clear k6 h6
        go_wp2_with fail
        go_ret
        refine ⟨_, rfl, H6.out.1, ?_⟩
        rw [HT.out, HF.out]
        exact H6.out.2
end Go.Proofs.YtnpneippahdigaaDoor
