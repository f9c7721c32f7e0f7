/-
  Step by step: the statement 'DrawApart'.
-/
import Derived.Test.YtjknjjcdgniodaaDoorDrawNumbersW
import Derived.Deep.CutBlock
namespace Go.Proofs.Drw
/-- a pick below any number. -/
def pickZ (root : List Nat) (k : Int) (t : Nat) : Nat × Nat := if k < 2 then (0, t) else pick root k.toNat t
theorem pick_le (root : List Nat) (n t : Nat) (hn : 0 < n) : (pick root n t).1 < n ∧ t + 1 ≤ (pick root n t).2 ∧ (pick root n t).2 ≤ t + 64 := by
  obtain ⟨h1, h2, h3⟩ := pickTo_lt root n hn 63 (wordN root t) (t + 1)
  exact ⟨h1, h2, by unfold pick; omega⟩
theorem pickZ_le (root : List Nat) (k : Int) (t : Nat) : t ≤ (pickZ root k t).2 ∧ (pickZ root k t).2 ≤ t + 64 := by
  unfold pickZ
  split
  · exact ⟨Nat.le_refl _, by simp⟩
  · obtain ⟨_, h2, h3⟩ := pick_le root k.toNat t (by omega)
    exact ⟨by omega, h3⟩
theorem pickZ_lt (root : List Nat) (k : Int) (t : Nat) (h : 1 ≤ k) : ((pickZ root k t).1 : Int) < k := by
  unfold pickZ
  split
  · simp; omega
  · have := (pick_le root k.toNat t (by omega)).1
    omega
/-- how many words were taken by the first picks of a list. -/
def takenTo (root : List Nat) (l : List Int) : Nat → Nat
  | 0 => 0
  | i + 1 => (pickZ root (l.getD i 0) (takenTo root l i)).2
theorem takenTo_le (root : List Nat) (l : List Int) (i : Nat) : takenTo root l i ≤ 64 * i := by
  induction i with
  | zero => exact Nat.le_refl _
  | succ i ih => have := (pickZ_le root (l.getD i 0) (takenTo root l i)).2; simp only [takenTo]; omega
def pickAt (root : List Nat) (l : List Int) (i : Nat) : Nat := (pickZ root (l.getD i 0) (takenTo root l i)).1
def picksTo (root : List Nat) (l : List Int) (i : Nat) : List Nat := (List.range i).map (pickAt root l)
theorem picksTo_length (root : List Nat) (l : List Int) (i : Nat) : (picksTo root l i).length = i := by simp [picksTo]
theorem picksTo_succ (root : List Nat) (l : List Int) (i : Nat) : picksTo root l (i + 1) = picksTo root l i ++ [pickAt root l i] := by simp [picksTo, List.range_succ]
theorem picksTo_get (root : List Nat) (l : List Int) (i j : Nat) (h : j < i) : (picksTo root l i).getD j 0 = pickAt root l j := by
  unfold picksTo
  rw [List.getD_eq_getElem?_getD, List.getElem?_map, List.getElem?_range h]
  rfl
end Go.Proofs.Drw
namespace Go.Proofs.YtjknjjcdgniodaaDoor
open Go.RowKit Go.Proofs.Mem

theorem dpick_any (b : Nat) (root : List Nat) (t n : Nat) (k : Int) (a : Addr) (w : World) (ht : t < 576460752303423488) (hk2 : k ≤ 9223372036854775807) (hk : DOk w b root) (he : ErrAt w 0 a) (hb : DrawAt w b root t n) :
    Calls Tryd.prog 33 #[.pointer (some ⟨b, 0, none⟩), .int .i64 k] w fun e w' => ∃ ev, e = .returned (.tuple #[.int .i64 ((Drw.pickZ root k t).1 : Nat), ev]) ∧ Keep (fun j => j < w.heap.size ∧ j ≠ b) w w' ∧ DrawAt w' b root (Drw.pickZ root k t).2 n := by
  unfold Drw.pickZ
  by_cases h1 : k < 1
  · rw [if_pos (by omega)]
    refine (dpick_bad b k _ w h1 he.cell).mono ?_
    rintro e w' ⟨rfl, kk⟩
    exact ⟨_, rfl, kk.mono (fun _ _ => trivial), hb.keep kk trivial⟩
  · by_cases h2 : k < 2
    · obtain rfl : k = 1 := by omega
      rw [if_pos (by omega)]
      refine (dpick_one b w).mono ?_
      rintro e w' ⟨rfl, rfl⟩
      exact ⟨_, rfl, Keep.refl _ _, hb⟩
    · rw [if_neg h2]
      obtain ⟨m, rfl⟩ : ∃ m : Nat, k = (m : Int) := ⟨k.toNat, by omega⟩
      rw [Int.toNat_natCast]
      refine (dpick_walk b root t n m w ht (by omega) (by omega) hk hb).mono ?_
      rintro e w' ⟨rfl, kk, hd⟩
      exact ⟨_, rfl, kk, hd⟩

set_option maxRecDepth 100000 in
set_option maxHeartbeats 4000000 in
theorem drawApart_walk (u v z : Value) (seed other : List Nat) (below : List Int) (ea : Addr) (w : World) (p p' p'' : Nat → Prop) (hx : ∀ x ∈ seed, x < 256) (hy : ∀ x ∈ other, x < 256) (hbl : ∀ x ∈ below, x ≤ 9223372036854775807) (hT : TurnsAt w) (he : ErrAt w 0 ea)
    (hu : Cells w p u (ints .u8 seed)) (hv : Cells w p' v (ints .u8 other)) (hz : Cells w p'' z (below.map (Value.int .i64))) :
    Calls Tryd.prog 9 #[u, v, z] w fun e w' => e = .returned (.bool true) ∧ Keep (· < w.heap.size) w w' := by
  have Hu := hid (hu.lt.mono (fun _ h => h.1))
  have Hv := hid (hv.lt.mono (fun _ h => h.1))
  have Hz := hid (hz.lt.mono (fun _ h => h.1))
  have HT := hid hT
  have HE := hid he
  have l1 := hu.len_le
  have l2 := hv.len_le
  have l3 := hz.len_le
  rw [ints_length] at l1 l2
  rw [List.length_map] at l3
  clear hu hv hz hT he
  obtain ⟨a1, n1, c1, rfl, e1, m1, q1, _⟩ := Hu.out
  obtain ⟨a2, n2, c2, rfl, e2, m2, q2, _⟩ := Hv.out
  obtain ⟨a3, n3, c3, rfl, e3, m3, q3, hcc⟩ := Hz.out
  rw [ints_length] at e1 e2
  rw [List.length_map] at e3
  subst e1 e2 e3
  have q1' : c1 ≤ 9223372036854775807 := by simpa [maxLen] using q1
  have q2' : c2 ≤ 9223372036854775807 := by simpa [maxLen] using q2
  have q3' : c3 ≤ 9223372036854775807 := by simpa [maxLen] using q3
  have HCC := hid hcc
  have HBL := hid hbl
  clear q1 q2 q3 hcc hbl
  go_enter Tryd.func9, Tryd.ntmps9
  go_wp2_with fail
  refine (alive4_walk w HT.out).mono ?_
  rintro e w1 ⟨rfl, k1⟩
  have H1 := hid k1
  clear k1
  by_cases g1 : 3000 < seed.length
  · have g1' : decide ((3000 : Int) < (seed.length : Int)) = true := by simp; omega
    go_wp2_with fail
    go_ret
    exact ⟨rfl, H1.out⟩
  have g1' : decide ((3000 : Int) < (seed.length : Int)) = false := by simp; omega
  by_cases g2 : 3000 < other.length
  · have g2' : decide ((3000 : Int) < (other.length : Int)) = true := by simp; omega
    go_wp2_with fail
    go_ret
    exact ⟨rfl, H1.out⟩
  have g2' : decide ((3000 : Int) < (other.length : Int)) = false := by simp; omega
  go_wp2_with fail
  have hgt := HT.out.lt
  have hz1 := H1.out.size
  refine (drawnew_walk _ seed w1 _ hx (by omega) (HT.out.keep H1.out HT.out.lt) (Hu.out.keep H1.out (fun _ h => h))).mono ?_
  rintro e w2 ⟨a, rfl, hwa, k2, h2⟩
  have H2 := hid (And.intro (H1.out.trans (k2.mono (fun k h => Nat.lt_of_lt_of_le h hz1))) h2)
  have hz2 := h2.lt
  clear k2 h2
  go_wp2_with fail
  refine (drawnew_walk _ seed w2 _ hx (by omega) (HT.out.keep H2.out.1 HT.out.lt) (Hu.out.keep H2.out.1 (fun _ h => h))).mono ?_
  rintro e w3 ⟨b, rfl, hwb, k3, h3⟩
  have H3 := hid (And.intro (H2.out.1.trans (k3.mono (fun k h => by omega))) (And.intro h3 (H2.out.2.keep k3 hz2)))
  have hz3 := h3.lt
  clear k3 h3
  go_wp2_with fail
  refine (drawnew_walk _ other w3 _ hy (by omega) (HT.out.keep H3.out.1 HT.out.lt) (Hv.out.keep H3.out.1 (fun _ h => h))).mono ?_
  rintro e w4 ⟨c, rfl, hwc, k4, h4⟩
  have H4 := hid (And.intro (H3.out.1.trans (k4.mono (fun k h => by omega))) (And.intro h4 (And.intro (H3.out.2.1.keep k4 hz3) (H3.out.2.2.keep k4 (show a < _ by omega)))))
  have hz4 := h4.lt
  clear k4 h4
  obtain ⟨R, hR⟩ : ∃ R, Sha.of seed = R := ⟨_, rfl⟩
  have hRl : R.length = 32 := by rw [← hR]; exact of_length hx
  have hRb : ∀ x ∈ R, x < 256 := by rw [← hR]; exact of_lt
  obtain ⟨S, hS⟩ : ∃ S, Sha.of other = S := ⟨_, rfl⟩
  have hSl : S.length = 32 := by rw [← hS]; exact of_length hy
  have hSb : ∀ x ∈ S, x < 256 := by rw [← hS]; exact of_lt
  rw [hR, hS] at H4
  have HRB := hid (And.intro hRb hSb)
  obtain ⟨B, hB⟩ : ∃ B, w4.heap.size = B := ⟨_, rfl⟩
  have haw : w.heap.size ≤ a := by omega
  have hab : a < b := by omega
  have hbc : b < c := by omega
  have hcB : c < B := by omega
  have HOK := hid (fun (wx : World) (kx : Keep (· < w.heap.size) w wx) => (show DOk wx a R ∧ DOk wx b R ∧ DOk wx c S ∧ ErrAt wx 0 ea from
    ⟨⟨hRl, hRb, HT.out.keep kx HT.out.lt, by omega⟩, ⟨hRl, hRb, HT.out.keep kx HT.out.lt, by omega⟩, ⟨hSl, hSb, HT.out.keep kx HT.out.lt, by omega⟩, HE.out.keep kx HE.out.lt HE.out.blt⟩))
  obtain ⟨i0, hi0, hz0, hs0, hb0⟩ := info_parts (show (Tryd.prog.info? 3).map (fun i => (i.zero, i.size, i.bytes)) = some (some (.int .i64 0), 1, 8) by kernel_rfl)
  clear hR hS hRb hSb H1 H2 H3 hwa hwb hwc hz1 hz2 hz3
  go_upto_block 0 with fail
  go_cut [10] (fun s10 wx => ∃ m, m = min below.length 61 ∧ Row wx 3 s10 (ints .i64 (Drw.picksTo R below m)) ∧ (∀ k, s10.ownBlock = some k → B ≤ k) ∧ DrawAt wx a R (Drw.takenTo R below m) 0 ∧ DrawAt wx b R 0 0 ∧ (∃ tc, tc ≤ 61 ∧ DrawAt wx c S tc 0) ∧ Keep (· < w.heap.size) w wx)
  case first =>
    go_wp2_with fail
    go_loopg [10, 38] below.length (fun k s10 s38 wr => ∃ i, i + k = below.length ∧ i ≤ 61 ∧ s38 = .int .i64 (i : Int) ∧ Row wr 3 s10 (ints .i64 (Drw.picksTo R below i)) ∧ (∀ k, s10.ownBlock = some k → B ≤ k) ∧ DrawAt wr a R (Drw.takenTo R below i) 0 ∧ DrawAt wr b R 0 0 ∧ (∃ tc, tc ≤ i ∧ DrawAt wr c S tc 0) ∧ Keep (· < w.heap.size) w wr ∧ B ≤ wr.heap.size)
    case atStart =>
      have kx : Keep (fun k => k < B) w4 (w4.alloc (.cells #[] 3)) := (Keep.refl _ _).alloc _ (fun k h => by omega)
      refine ⟨0, by omega, by decide, rfl, by rw [← hB]; exact owns_empty w4 0 3 (Nat.zero_le _), fun k hk => by simp [Value.ownBlock] at hk; omega, H4.out.2.2.2.keep kx (by show a < B; omega), H4.out.2.2.1.keep kx (by show b < B; omega), ⟨0, Nat.le_refl _, H4.out.2.1.keep kx hcB⟩, H4.out.1.trans (kx.mono (fun k h => by omega)), by simp; omega⟩
    case round =>
      obtain ⟨i, hi, hi61, rfl, hrow, hown, hda, hdb, ⟨tc, htc, hdc⟩, hk, hBz⟩ := hrel
      have HH := hid (And.intro hrow (And.intro hown (And.intro hda (And.intro hdb (And.intro hdc hk)))))
      clear hrow hown hda hdb hdc hk
      by_cases hlt : i < below.length
      · obtain ⟨x, hxx⟩ : ∃ x, below.getD i 0 = x := ⟨_, rfl⟩
        obtain ⟨blk, off, rfl, hp, hc⟩ := HCC.out (by omega)
        have cx : wr.cell? ⟨blk, off + i, none⟩ = some (.int .i64 x) := by
          rw [HH.out.2.2.2.2.2.cell (x := ⟨blk, off + i, none⟩) hp, hc i hlt, List.getElem?_map, List.getElem?_eq_getElem hlt, ← hxx, List.getD_eq_getElem?_getD, List.getElem?_eq_getElem hlt]
          rfl
        have hxl : x ≤ 9223372036854775807 := HBL.out x (by rw [← hxx, List.getD_eq_getElem?_getD, List.getElem?_eq_getElem hlt]; exact List.getElem_mem _)
        have l0 : (i : Int) < (below.length : Int) := by omega
        have HX := hid hxx
        clear hc hxx
        by_cases h60 : 60 < i
        · have t1 : decide ((60 : Int) < (i : Int)) = true := by simp; omega
          obtain rfl : i = 61 := by omega
          go_wp2_with fail
          go_meet
          case rel =>
            obtain ⟨h1, h2, h3, h4', h5, h6⟩ := HH.out
            exact ⟨61, by omega, h1, h2, h3, h4', ⟨tc, htc, h5⟩, h6⟩
        · have t1 : decide ((60 : Int) < (i : Int)) = false := by simp; omega
          have htk := Drw.takenTo_le R below i
          obtain ⟨q, hq⟩ : ∃ q, Drw.takenTo R below i = q := ⟨_, rfl⟩
          rw [hq] at HH htk
          have HQ := hid hq
          clear hq
          go_wp2_with fail
          have ok := HOK.out wr HH.out.2.2.2.2.2
          refine (dpick_any a R q 0 x ea wr (by omega) hxl ok.1 ok.2.2.2 HH.out.2.2.1).mono ?_
          rintro e w5 ⟨ev, rfl, k5, h5⟩
          obtain ⟨y, hy5⟩ : ∃ y, (Drw.pickZ R x q).1 = y := ⟨_, rfl⟩
          rw [hy5]
          have HY := hid hy5
          have H5 := hid (And.intro (HH.out.1.keep k5 (fun k hk => ⟨HH.out.1.lt hk, by have := HH.out.2.1 k hk; omega⟩)) (And.intro h5 (And.intro (HH.out.2.2.2.1.keep k5 ⟨by omega, by omega⟩) (And.intro (HH.out.2.2.2.2.1.keep k5 ⟨by omega, by omega⟩) (HH.out.2.2.2.2.2.trans (k5.mono (fun k h => ⟨by omega, by omega⟩)))))))
          have hz5 : B ≤ w5.heap.size := Nat.le_trans hBz k5.size
          have HOW := hid HH.out.2.1
          clear k5 h5 hy5 HH ok cx
          have HA := hid (append_at_one (P := Tryd.prog) 49 3 i0 (.int .i64 0) 8 Tryd.underlying49 hi0 hz0 hs0 hb0 rfl w5 49 _ (.int .i64 (y : Nat)) _ H5.out.1 rfl (by rw [ints_length, Drw.picksTo_length]; omega) (by rw [ints_length, Drw.picksTo_length]; omega))
          go_wp2_with (at_builtin; refine wpList_app rfl (.tmp 51) (.tmp 53) 49 49 rfl _ HA.out ?_; rintro v6 w6 ⟨r6, k6, o6⟩)
          have hnab : ∀ j, j < B → j < w5.heap.size ∧ u10.ownBlock ≠ some j := fun j hj => ⟨by omega, fun h => by have := HOW.out j h; omega⟩
          have H6 := hid (And.intro r6 (And.intro (H5.out.2.1.keep k6 (hnab a (by omega))) (And.intro (H5.out.2.2.1.keep k6 (hnab b (by omega))) (And.intro (H5.out.2.2.2.1.keep k6 (hnab c hcB)) (H5.out.2.2.2.2.trans (k6.mono (fun k h => hnab k (by omega))))))))
          have O6 : Hid (∀ k, v6.ownBlock = some k → B ≤ k) := fun k hk => by
            rcases o6 k hk with h | h
            · exact HOW.out k h
            · omega
          have hz6 : B ≤ w6.heap.size := Nat.le_trans hz5 k6.size
          clear r6 k6 o6 HA
          have ok := HOK.out w6 H6.out.2.2.2.2
          refine (dword_walk c S tc 0 w6 (by omega) ok.2.2.1 H6.out.2.2.2.1).mono ?_
          rintro e w7 ⟨rfl, k7, h7⟩
          have H7 := hid (And.intro (H6.out.1.keep k7 (fun k hk => ⟨H6.out.1.lt hk, by have := O6.out k hk; omega⟩)) (And.intro (H6.out.2.1.keep k7 ⟨by omega, by omega⟩) (And.intro (H6.out.2.2.1.keep k7 ⟨by omega, by omega⟩) (And.intro h7 (H6.out.2.2.2.2.trans (k7.mono (fun k h => ⟨by omega, by omega⟩)))))))
          have hz7 : B ≤ w7.heap.size := Nat.le_trans hz6 k7.size
          clear k7 h7 ok
          go_wp2_with fail
          go_roundg (gk - 1)
          case measure => omega
          case rel =>
            have e1 : Drw.takenTo R below (i + 1) = (Drw.pickZ R x q).2 := by show (Drw.pickZ R (below.getD i 0) (Drw.takenTo R below i)).2 = _; rw [HX.out, HQ.out]
            have e2 : Drw.picksTo R below (i + 1) = Drw.picksTo R below i ++ [y] := by
              rw [Drw.picksTo_succ]; unfold Drw.pickAt; rw [HX.out, HQ.out, HY.out]
            refine ⟨i + 1, by omega, by omega, by go_num, ?_, O6.out, by rw [e1]; exact H7.out.2.1, H7.out.2.2.1, ⟨tc + 1, by omega, H7.out.2.2.2.1⟩, H7.out.2.2.2.2, hz7⟩
            rw [e2, ints_append]
            exact H7.out.1
      · obtain rfl : i = below.length := by omega
        go_wp2_with fail
        go_meet
        case rel =>
          obtain ⟨h1, h2, h3, h4', h5, h6⟩ := HH.out
          exact ⟨below.length, by omega, h1, h2, h3, h4', ⟨tc, by omega, h5⟩, h6⟩
  case rest =>
    obtain ⟨m, hm, hrow, hown, hda, hdb, ⟨tc, htc, hdc⟩, hk⟩ := hcut
    obtain ⟨sa, sc, rfl⟩ := hrow.form
    rw [ints_length, Drw.picksTo_length] at hrow hown ⊢
    have HH := hid (And.intro hrow (And.intro hown (And.intro hda (And.intro hdb (And.intro hdc hk)))))
    have hm1 : m ≤ 61 := by omega
    have hm2 : m ≤ below.length := by omega
    clear hrow hown hda hdb hdc hk hm
    go_wp2_with fail
    go_loopg [60] m (fun k s60 wr => ∃ i, i + k = m ∧ s60 = .int .i64 (i : Int) ∧ Row wr 3 (.slice sa m sc) (ints .i64 (Drw.picksTo R below m)) ∧ DrawAt wr a R (Drw.takenTo R below m) 0 ∧ DrawAt wr b R (Drw.takenTo R below i) 0 ∧ (∃ tc, tc ≤ 61 + 64 * i ∧ DrawAt wr c S tc 0) ∧ Keep (· < w.heap.size) w wr)
    case atStart => exact ⟨0, by omega, rfl, HH.out.1, HH.out.2.2.1, HH.out.2.2.2.1, ⟨tc, by omega, HH.out.2.2.2.2.1⟩, HH.out.2.2.2.2.2⟩
    case round =>
      have HOW := hid HH.out.2.1
      clear HH
      clear htc tc
      obtain ⟨i, hi, rfl, hrow, hda, hdb, ⟨tc, htc, hdc⟩, hk⟩ := hrel
      have HH := hid (And.intro hrow (And.intro hda (And.intro hdb (And.intro hdc hk))))
      clear hrow hda hdb hdc hk
      by_cases hlt : i < m
      · obtain ⟨x, hxx⟩ : ∃ x, below.getD i 0 = x := ⟨_, rfl⟩
        obtain ⟨blk, off, rfl, hp, hc⟩ := HCC.out (by omega)
        have hcx : ∀ wx : World, Keep (· < w.heap.size) w wx → wx.cell? ⟨blk, off + i, none⟩ = some (.int .i64 x) := by
          intro wx kx
          rw [kx.cell (x := ⟨blk, off + i, none⟩) hp, hc i (by omega), List.getElem?_map, List.getElem?_eq_getElem (show i < below.length by omega), ← hxx, List.getD_eq_getElem?_getD, List.getElem?_eq_getElem (show i < below.length by omega)]
          rfl
        have hxl : x ≤ 9223372036854775807 := HBL.out x (by rw [← hxx, List.getD_eq_getElem?_getD, List.getElem?_eq_getElem (show i < below.length by omega)]; exact List.getElem_mem _)
        have l0 : (i : Int) < (below.length : Int) := by omega
        have l1' : (i : Int) < (m : Int) := by omega
        have HX := hid hxx
        have HCX := hid hcx
        clear hc hxx hcx
        obtain ⟨q, hq⟩ : ∃ q, Drw.takenTo R below i = q := ⟨_, rfl⟩
        have htk := Drw.takenTo_le R below i
        rw [hq] at HH htk
        obtain ⟨y, hy5⟩ : ∃ y, (Drw.pickZ R x q).1 = y := ⟨_, rfl⟩
        have hyl : 1 ≤ x → (y : Int) < x := fun h => by rw [← hy5]; exact Drw.pickZ_lt R x q h
        have HY := hid hy5
        have hgy : (Drw.picksTo R below m).getD i 0 = y := by rw [Drw.picksTo_get R below m i hlt]; unfold Drw.pickAt; rw [HX.out, hq, hy5]
        obtain ⟨g, gc, eg, _, _, hg1, hg2, _⟩ := HH.out.1.blk (by rw [ints_length, Drw.picksTo_length]; omega)
        injection eg with eg1 eg2 eg3
        subst eg1
        have cg : wr.cell? ⟨g, i, none⟩ = some (.int .i64 (y : Nat)) := by rw [hg2 i (by rw [ints_length, Drw.picksTo_length]; exact hlt), ints_get _ _ _ (by rw [Drw.picksTo_length]; exact hlt), hgy]
        have HQ := hid hq
        have HYL := hid hyl
        clear eg2 eg3 hg2 hgy hq hy5 hyl
        go_wp2_with fail
        have ok := HOK.out wr HH.out.2.2.2.2
        have cix : (i : Int) + 1 ≤ 9223372036854775807 := by omega
        refine (dpick_any c S tc 0 ((i : Int) + 1) ea wr (by omega) cix ok.2.2.1 ok.2.2.2 HH.out.2.2.2.1).mono ?_
        rintro e w5 ⟨ev, rfl, k5, h5⟩
        have hle := (Drw.pickZ_le S ((i : Int) + 1) tc).2
        obtain ⟨tc', htc'⟩ : ∃ t, (Drw.pickZ S ((i : Int) + 1) tc).2 = t := ⟨_, rfl⟩
        rw [htc'] at h5 hle
        obtain ⟨jj, hjj⟩ : ∃ t, (Drw.pickZ S ((i : Int) + 1) tc).1 = t := ⟨_, rfl⟩
        rw [hjj]
        have hgB : B ≤ g := HOW.out g rfl
        have H5 := hid (And.intro (HH.out.1.keep k5 (fun k hk => ⟨HH.out.1.lt hk, by have := HOW.out k hk; omega⟩)) (And.intro (HH.out.2.1.keep k5 ⟨by have := HH.out.2.1.lt; omega, by omega⟩) (And.intro (HH.out.2.2.1.keep k5 ⟨by have := HH.out.2.2.1.lt; omega, by omega⟩) (And.intro h5 (HH.out.2.2.2.2.trans (k5.mono (fun k h => ⟨by have := HH.out.2.1.lt; omega, by omega⟩)))))))
        have cx := HCX.out w5 H5.out.2.2.2.2
        clear k5 h5 htc' hjj cg ok
        go_wp2_with fail
        have ok := HOK.out w5 H5.out.2.2.2.2
        refine (dpick_any b R q 0 x ea w5 (by omega) hxl ok.2.1 ok.2.2.2 H5.out.2.2.1).mono ?_
        rintro e w6 ⟨ev2, rfl, k6, h6⟩
        rw [HY.out]
        have H6 := hid (And.intro (H5.out.1.keep k6 (fun k hk => ⟨H5.out.1.lt hk, by have := HOW.out k hk; omega⟩)) (And.intro (H5.out.2.1.keep k6 ⟨by have := H5.out.2.1.lt; omega, by omega⟩) (And.intro h6 (And.intro (H5.out.2.2.2.1.keep k6 ⟨by have := H5.out.2.2.2.1.lt; omega, by omega⟩) (H5.out.2.2.2.2.trans (k6.mono (fun k h => ⟨by have := H5.out.2.1.lt; omega, by omega⟩)))))))
        have cx6 := HCX.out w6 H6.out.2.2.2.2
        clear k6 h6 ok cx
        have s1 : decide ((y : Int) < 0) = false := by simp
        by_cases h1x : 1 ≤ x
        · have s2 : decide ((1 : Int) ≤ x) = true := by simpa using h1x
          have s3 : decide (x ≤ (y : Int)) = false := by have := HYL.out h1x; simp; omega
          go_wp2_with fail
          go_roundg (gk - 1)
          case measure => omega
          case rel =>
            have e1 : Drw.takenTo R below (i + 1) = (Drw.pickZ R x q).2 := by show (Drw.pickZ R (below.getD i 0) (Drw.takenTo R below i)).2 = _; rw [HX.out, HQ.out]
            exact ⟨i + 1, by omega, by go_num, H6.out.1, H6.out.2.1, by rw [e1]; exact H6.out.2.2.1, ⟨tc', by omega, H6.out.2.2.2.1⟩, H6.out.2.2.2.2⟩
        · have s2 : decide ((1 : Int) ≤ x) = false := by simp; omega
          go_wp2_with fail
          go_roundg (gk - 1)
          case measure => omega
          case rel =>
            have e1 : Drw.takenTo R below (i + 1) = (Drw.pickZ R x q).2 := by show (Drw.pickZ R (below.getD i 0) (Drw.takenTo R below i)).2 = _; rw [HX.out, HQ.out]
            exact ⟨i + 1, by omega, by go_num, H6.out.1, H6.out.2.1, by rw [e1]; exact H6.out.2.2.1, ⟨tc', by omega, H6.out.2.2.2.1⟩, H6.out.2.2.2.2⟩
      · obtain rfl : i = m := by omega
        go_wp2_with fail
        refine (dtaken_walk a R _ 0 wr hRl HH.out.2.1).mono ?_
        rintro e w5 ⟨rfl, rfl⟩
        go_wp2_with fail
        refine (dtaken_walk b R _ 0 wr hRl HH.out.2.2.1).mono ?_
        rintro e w5 ⟨rfl, rfl⟩
        go_wp2_with fail
        go_ret
        exact ⟨rfl, HH.out.2.2.2.2⟩
end Go.Proofs.YtjknjjcdgniodaaDoor
