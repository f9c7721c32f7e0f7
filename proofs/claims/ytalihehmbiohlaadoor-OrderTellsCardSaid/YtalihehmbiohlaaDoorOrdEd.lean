/-
  Step by step: Clock of the document's answer of layer 18, and SameInts.
-/
import Derived.Test.YtalihehmbiohlaaDoorOrdEc
namespace Go.Proofs.Ord
theorem trim_take (xs : List Nat) : ∀ n, n ≤ xs.length → (∀ i, n ≤ i → i < xs.length → xs.getD i 0 = 0) → (n = 0 ∨ xs.getD (n - 1) 0 ≠ 0) → trim xs = xs.take n := by
  induction xs with
  | nil => intro n _ _ _; simp [trim]
  | cons x xs ih =>
    intro n hn hz hl
    cases n with
    | zero =>
      rw [List.take_zero]
      apply trim_zeros
      intro g
      rcases Nat.lt_or_ge g (x :: xs).length with h | h
      · exact hz g (Nat.zero_le _) h
      · rw [List.getD_eq_getElem?_getD, List.getElem?_eq_none h]; rfl
    | succ n =>
      have h1 := ih n (by simpa using hn) (fun i h1 h2 => by
        have := hz (i + 1) (by omega) (by simpa using h2)
        simpa using this) (by
        cases n with
        | zero => exact .inl rfl
        | succ n =>
          rcases hl with h | h
          · omega
          · right; simpa using h)
      unfold trim
      rw [h1]
      rw [List.take_succ_cons]
      rw [if_neg]
      rintro ⟨hx, ht⟩
      cases n with
      | zero =>
        rcases hl with h | h
        · omega
        · simp [hx] at h
      | succ n =>
        have : (xs.take (n + 1)).length = 0 := by rw [ht]; rfl
        rw [List.length_take] at this
        simp at hn
        omega
theorem cntB_le (rooms : List Int) (l : List Ev) (j n g : Nat) : cntB rooms l j n g ≤ n := by
  unfold cntB
  have := List.length_filter_le (fun i => (i == j || hbB rooms l j i) && decide ((evAt l i).g.toNat = g)) (List.range n)
  rw [List.length_range] at this
  exact this
/-- the counts of the first n events. -/
def cntL (rooms : List Int) (l : List Ev) (j n : Nat) : List Nat := (List.range 8).map (cntB rooms l j n)
theorem cntL_length (rooms : List Int) (l : List Ev) (j n : Nat) : (cntL rooms l j n).length = 8 := by simp [cntL]
theorem cntL_get (rooms : List Int) (l : List Ev) (j n g : Nat) (h : g < 8) : (cntL rooms l j n).getD g 0 = cntB rooms l j n g := by
  unfold cntL
  rw [List.getD_eq_getElem?_getD, List.getElem?_map, List.getElem?_range h]
  rfl
theorem cntL_zero (rooms : List Int) (l : List Ev) (j : Nat) : cntL rooms l j 0 = List.replicate 8 0 := by
  show (List.range 8).map (cntB rooms l j 0) = _
  rw [show cntB rooms l j 0 = fun _ => 0 from rfl]
  rfl
theorem cntL_all (rooms : List Int) (l : List Ev) (j : Nat) (hj : j < l.length) : trim (cntL rooms l j (j + 1)) = short (clockAt rooms l j) := by
  unfold short cntL
  congr 1
  apply List.map_congr_left
  intro g _
  exact cntB_all hj g
theorem cntL_step (rooms : List Int) (l : List Ev) (j n g : Nat) (hg : g < 8) (h : (n == j || hbB rooms l j n) = true) (he : (evAt l n).g.toNat = g) : cntL rooms l j (n + 1) = (cntL rooms l j n).set g (cntB rooms l j n g + 1) := by
  apply List.ext_getElem?
  intro i
  rw [List.getElem?_set]
  unfold cntL
  rw [List.getElem?_map, List.getElem?_map]
  by_cases hi : i < 8
  · rw [List.getElem?_range hi]
    simp only [Option.map_some, List.length_map, List.length_range]
    by_cases e : g = i
    · rw [if_pos e, if_pos hg, cntB_succ, if_pos ⟨h, by rw [he, e]⟩, ← e]
    · rw [if_neg e, cntB_succ, if_neg (fun h2 => e (by rw [← he, h2.2])), Nat.add_zero]
  · rw [List.getElem?_eq_none (l := List.range 8) (by simp; omega)]
    rw [if_neg (by omega)]
    rfl
theorem cntL_skip (rooms : List Int) (l : List Ev) (j n : Nat) (h : (n == j || hbB rooms l j n) = false) : cntL rooms l j (n + 1) = cntL rooms l j n := by
  unfold cntL
  apply List.map_congr_left
  intro g _
  rw [cntB_succ, if_neg (by rw [h]; simp), Nat.add_zero]
end Go.Proofs.Ord
namespace Go.Proofs.YtalihehmbiohlaaDoor
open Go.RowKit Go.Maps Go.Proofs.Mem Go.Proofs.Txt Go.Proofs.Ord Go.Proofs.Mp

set_option maxRecDepth 100000 in
set_option maxHeartbeats 8000000 in
theorem clock18_walk (rooms : List Int) (l : List Ev) (v : Value) (T j : Nat) (bs : Nat → Nat) (w0 w : World) (p : Nat → Prop) (hv : EvsAt w p v l) (ht : TabIn w0 w T l.length l.length bs (hbB rooms l)) (hok : l.all Ev.ok = true) (hj : j < l.length) (hl : l.length ≤ 1000) :
    Calls Tryd.prog 19 #[v, .slice (some ⟨T, 0, none⟩) l.length l.length, .int .i64 (j : Int)] w fun e w' => ∃ a n c, e = .returned (.slice a n c) ∧ Cells w' (fun b => w.heap.size ≤ b) (.slice a n c) (ints .i64 (short (clockAt rooms l j))) ∧ Keep (· < w.heap.size) w w' := by
  have HV := hid (hv.lt.mono (q := fun b => b < w.heap.size) (fun _ h => h.1))
  have HT := hid ht
  have HOK := hid hok
  obtain ⟨va, vc, rfl, hc1, hc2⟩ := hv.form
  obtain ⟨blk, off, rfl, _⟩ := hv.cell4 j hj
  obtain ⟨i0, hi0, hz0, hs0, hb0⟩ := int_info
  have mk : ∀ w0 : World, (Instr.makeSlice 32 (.int .i64 8) (.int .i64 8)).run Tryd.prog w0 = .ok (.slice (some ⟨w0.heap.size, 0, none⟩) 8 8) (w0.alloc (.cells (ints .i64 (List.replicate 8 0)).toArray 3)) := fun w0 => make_ints (P := Tryd.prog) 32 3 i0 .i64 8 Tryd.underlying32 hi0 hz0 hs0 hb0 8 8 (Nat.le_refl _) (by decide) (by decide) w0
  clear hv ht hok hi0 hz0 hs0 hb0
  go_enter Tryd.func19, Tryd.ntmps19
  go_upto_region 2 with fail
  clear mk
  refine wp_world (fun w1 => Keep (· < w.heap.size) w w1 ∧ w1.heap[w.heap.size]? = some (.cells (ints .i64 (List.replicate 8 0)).toArray 3 (0, 0))) ⟨(Keep.refl _ _).alloc _ (fun _ h => h), heap_alloc_new w _⟩ ?_
  rintro w1 ⟨k1, hC⟩
  obtain ⟨C, hCC⟩ : ∃ C, w.heap.size = C := ⟨_, rfl⟩
  have H1 := hid (And.intro k1 (hCC ▸ hC))
  have hCw : ¬ C < w.heap.size := by omega
  rw [hCC]
  clear k1 hC hCC
  go_wp2_with fail
  go_loopg [8] (j + 1) (fun k s8 wr => ∃ i : Nat, i + k = j + 1 ∧ s8 = .int .i64 (i : Int) ∧ Keep (· < w.heap.size) w wr ∧ wr.heap[C]? = some (.cells (ints .i64 (cntL rooms l j i)).toArray 3 (0, 0)))
  case atStart => exact ⟨0, by omega, rfl, H1.out.1, by rw [cntL_zero]; exact H1.out.2⟩
  case round =>
    obtain ⟨i, hik, rfl, hin, hC⟩ := hrel
    have HI := hid (And.intro hin (And.intro hC hik))
    by_cases hlt : i ≤ j
    · have l0 : (i : Int) ≤ (j : Int) := by omega
      have l1 : (i : Int) < (l.length : Int) := by omega
      have l2 : (j : Int) < (l.length : Int) := by omega
      obtain ⟨_, cg, _⟩ := (HV.out.keep hin (fun _ h => h)).same i (by omega) rfl
      obtain ⟨g0, g8, _⟩ := ok_g l HOK.out i (by omega)
      obtain ⟨g, hg⟩ : ∃ g : Nat, (evAt l i).g = (g : Int) := Int.eq_ofNat_of_zero_le g0
      have hg8 : g < 8 := by omega
      have hgt : (evAt l i).g.toNat = g := by omega
      rw [hg] at cg
      have g9 : (g : Int) < 8 := by omega
      have hcl : C < wr.heap.size := (Array.getElem?_eq_some_iff.1 hC).1
      have cc : wr.cell? ⟨C, g, none⟩ = some (.int .i64 (cntB rooms l j i g : Nat)) := by rw [cell_at hC, ints_get _ _ _ (by rw [cntL_length]; exact hg8), cntL_get _ _ _ _ _ hg8]
      have fc : wr.frozen? ⟨C, g, none⟩ = false := frozen_at hC g
      have hcb := cntB_le rooms l j i g
      have HST := hid (fun h => cntL_step rooms l j i g hg8 h hgt)
      obtain ⟨m, hm⟩ : ∃ m, cntB rooms l j i g = m := ⟨_, rfl⟩
      rw [hm] at cc hcb HST
      have hw : w.heap.size ≤ wr.heap.size := hin.size
      have cT : wr.cell? ⟨T, j, none⟩ = some (.slice (some ⟨bs j, 0, none⟩) l.length l.length) := (hin.cell (x := ⟨T, j, none⟩) HT.out.ltT).trans (HT.out.cellT hj)
      have cR : wr.cell? ⟨bs j, i, none⟩ = some (.bool (hbB rooms l j i)) := (hin.cell (x := ⟨bs j, i, none⟩) (HT.out.ltR hj)).trans (HT.out.cellR hj (by omega))
      have HSK := hid (fun h => cntL_skip rooms l j i h)
      obtain ⟨x, hx⟩ : ∃ x, hbB rooms l j i = x := ⟨_, rfl⟩
      rw [hx] at cR HST HSK
      clear hm hin hC hik hg hgt g0 g8 hx
      have step : ∀ wx : World, wx = wr.setCell ⟨C, g, none⟩ (.int .i64 ((m : Int) + 1)) → (i == j || x) = true → Keep (· < w.heap.size) w wx ∧ wx.heap[C]? = some (.cells (ints .i64 (cntL rooms l j (i + 1))).toArray 3 (0, 0)) := by
        rintro wx rfl h
        refine ⟨HI.out.1.setCell _ hCw, ?_⟩
        have := set_at HI.out.2.1 g (.int .i64 ((m + 1 : Nat) : Int))
        rw [ints_set, ← HST.out h] at this
        exact this
      have STEP := hid step
      clear step
      by_cases hij : i = j
      · subst hij
        go_wp2_with fail
        go_roundg (gk - 1)
        case measure => have := HI.out.2.2; omega
        case rel => exact ⟨i + 1, by have := HI.out.2.2; omega, by go_num, STEP.out _ rfl (by simp)⟩
      · have t1 : ((i : Int) == (j : Int)) = false := by simp; omega
        have t2 : (i == j) = false := by simp; omega
        cases x
        · go_wp2_with fail
          go_roundg (gk - 1)
          case measure => have := HI.out.2.2; omega
          case rel => exact ⟨i + 1, by have := HI.out.2.2; omega, by go_num, HI.out.1, by rw [HSK.out (by rw [t2]; rfl)]; exact HI.out.2.1⟩
        · go_wp2_with fail
          go_roundg (gk - 1)
          case measure => have := HI.out.2.2; omega
          case rel => exact ⟨i + 1, by have := HI.out.2.2; omega, by go_num, STEP.out _ rfl (by simp)⟩
    · obtain rfl : i = j + 1 := by omega
      have HCL := hid (cntL_all rooms l j hj)
      have HLN := hid (cntL_length rooms l j (j + 1))
      have HB := hid (fun g (_ : g < 8) => cntB_le rooms l j (j + 1) g)
      have HG := hid (fun g => cntL_get rooms l j (j + 1) g)
      obtain ⟨xs, hxs⟩ : ∃ xs, cntL rooms l j (j + 1) = xs := ⟨_, rfl⟩
      rw [hxs] at HCL HLN HG hC
      have t1 : ¬ ((j + 1 : Nat) : Int) ≤ (j : Int) := by omega
      have HX := hid (And.intro hin hC)
      have cx : ∀ i, i < 8 → wr.cell? ⟨C, i, none⟩ = some (.int .i64 (xs.getD i 0 : Nat)) := fun i hi => by rw [cell_at hC, ints_get _ _ _ (by rw [HLN.out]; exact hi)]
      have CX := hid cx
      clear hin hC hik hxs cx
      go_wp2_with fail
      go_loopg [9] 8 (fun k s9 wx => k ≤ 8 ∧ s9 = .int .i64 (k : Int) ∧ wx = wr ∧ ∀ i, k ≤ i → i < 8 → xs.getD i 0 = 0)
      case atStart => exact ⟨Nat.le_refl _, rfl, rfl, fun i h1 h2 => by omega⟩
      case round =>
        obtain ⟨hk8, rfl, rfl, hz⟩ := hrel
        have HZ := hid hz
        clear hz
        rcases gk with _ | n
        · go_wp2_with fail
          go_ret
          refine ⟨_, _, _, rfl, ?_, HX.out.1⟩
          have : short (clockAt rooms l j) = [] := by
            rw [← HCL.out]
            exact trim_take xs 0 (Nat.zero_le _) (fun i h1 h2 => HZ.out i h1 (by rw [HLN.out] at h2; exact h2)) (.inl rfl)
          rw [this]
          exact ⟨_, _, _, rfl, rfl, by decide, by decide, fun h => absurd h (Nat.lt_irrefl _)⟩
        · have cn := CX.out n (by omega)
          have l3 : ((n + 1 : Nat) : Int) - 1 = (n : Int) := by omega
          obtain ⟨y, hy⟩ : ∃ y, xs.getD n 0 = y := ⟨_, rfl⟩
          rw [hy] at cn
          have HY := hid hy
          clear hy
          have l4 : (n : Int) < 8 := by omega
          have t3 : decide ((0 : Int) < ((n + 1 : Nat) : Int)) = true := by rw [decide_eq_true_eq]; omega
          by_cases h0 : y = 0
          · subst h0
            go_wp2_with fail
            go_roundg n
            case measure => omega
            case rel =>
              refine ⟨by omega, by go_num, rfl, fun i h1 h2 => ?_⟩
              by_cases e : i = n
              · rw [e]; exact HY.out
              · exact HZ.out i (by omega) h2
          · have t4 : ((y : Int) == 0) = false := by simp [h0]
            have t5 : (y == 0) = false := by simp [h0]
            have HH := hid h0
            clear h0
            go_wp2_with fail
            go_ret
            refine ⟨_, _, _, rfl, ?_, HX.out.1⟩
            have ht : short (clockAt rooms l j) = xs.take (n + 1) := by
              rw [← HCL.out]
              exact trim_take xs (n + 1) (by rw [HLN.out]; exact hk8) (fun i h1 h2 => HZ.out i h1 (by rw [HLN.out] at h2; exact h2)) (.inr (by rw [Nat.add_sub_cancel, HY.out]; exact HH.out))
            rw [ht, ← ints_take]
            have := Cells.of_block (w := wr) (p := fun b => w.heap.size ≤ b) (cur := ints .i64 xs) (off := 0) (n := n + 1) (cap := 8) HX.out.2 (by omega) (by rw [ints_length, HLN.out]; omega) hk8 (by decide)
            rwa [List.drop_zero] at this
theorem sameInts_walk (xs : List Nat) (u v : Value) (w : World) (p q : Nat → Prop) (hu : Cells w p u (ints .i64 xs)) (hv : Cells w q v (ints .i64 xs)) :
    Calls Tryd.prog 18 #[u, v] w fun e w' => e = .returned (.bool true) ∧ Keep (fun _ => True) w w' := by
  obtain ⟨ua, un, uc, rfl, e1, e2, e3, _⟩ := id hu
  obtain ⟨va, vn, vc, rfl, f1, f2, f3, _⟩ := id hv
  obtain ⟨N, hN⟩ : ∃ N, xs.length = N := ⟨_, rfl⟩
  rw [ints_length, hN] at e1 f1
  subst e1 f1
  have hm : vn ≤ 9223372036854775807 := by simpa [maxLen] using Nat.le_trans e2 e3
  have HU := hid hu
  have HV := hid hv
  have HN := hid hN
  clear hu hv hN
  go_enter Tryd.func18, Tryd.ntmps18
  go_wp2_with fail
  go_loopg [13] vn (fun k s13 wr => ∃ j : Nat, j + k = vn ∧ s13 = .int .i64 (j : Int) ∧ Keep (fun _ => True) w wr)
  case atStart => exact ⟨0, by omega, rfl, Keep.refl _ _⟩
  case round =>
    obtain ⟨j, hjk, rfl, hin⟩ := hrel
    by_cases hlt : j < vn
    · have l1 : (j : Int) < (vn : Int) := by omega
      obtain ⟨bx, fx, rfl, _, cx⟩ := cells_blk HU.out (by rw [ints_length, HN.out]; omega)
      obtain ⟨bz, fz, rfl, _, cz⟩ := cells_blk HV.out (by rw [ints_length, HN.out]; omega)
      have hj : j < xs.length := by rw [HN.out]; exact hlt
      have d3 := (hin.cell (x := ⟨bx, fx + j, none⟩) trivial).trans ((cx j (by rw [ints_length]; exact hj)).trans (ints_get .i64 xs j hj))
      have d4 := (hin.cell (x := ⟨bz, fz + j, none⟩) trivial).trans ((cz j (by rw [ints_length]; exact hj)).trans (ints_get .i64 xs j hj))
      obtain ⟨y, hy⟩ : ∃ y : Nat, xs.getD j 0 = y := ⟨_, rfl⟩
      rw [hy] at d3 d4
      have HJ := hid (And.intro hin hjk)
      clear cx cz hin hjk hy hj hlt
      go_wp2_with fail
      go_quiet (fail)
      go_wp2_with fail
      have kq := HJ.out.1.drewN nq
      go_roundg (gk - 1)
      case measure => have := HJ.out.2; omega
      case rel => exact ⟨j + 1, by have := HJ.out.2; omega, by go_num, kq⟩
    · obtain rfl : vn = j := by omega
      have HJ := hid hin
      clear hin hjk hlt
      go_wp2_with fail
      go_ret
      exact ⟨rfl, HJ.out⟩
end Go.Proofs.YtalihehmbiohlaaDoor
