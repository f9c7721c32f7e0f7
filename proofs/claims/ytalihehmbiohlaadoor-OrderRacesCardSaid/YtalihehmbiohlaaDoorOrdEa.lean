/-
  Step by step: which, nth and atomic of the document's answer of layer 18.
-/
import Derived.Test.YtalihehmbiohlaaDoorOrdV
import Derived.Test.YtalihehmbiohlaaDoorOrdDc
import Derived.BigQuiet
namespace Go.Proofs.YtalihehmbiohlaaDoor
open Go.RowKit Go.Maps Go.Proofs.Mem Go.Proofs.Txt Go.Proofs.Ord Go.Proofs.Mp

/-- an event's cells. -/
theorem EvsAt.cell4 {w : World} {p : Nat → Prop} {b : Option Addr} {n c : Nat} {l : List Ev} (h : EvsAt w p (.slice b n c) l) (i : Nat) (hi : i < l.length) :
    ∃ blk off, b = some ⟨blk, off, none⟩ ∧ p blk ∧ w.cell? ⟨blk, off + i * 4, none⟩ = some (.int .i64 (evAt l i).g) ∧ w.cell? ⟨blk, off + i * 4 + 1, none⟩ = some (.int .i64 (evAt l i).kd) ∧ w.cell? ⟨blk, off + i * 4 + 2, none⟩ = some (.int .i64 (evAt l i).obj) ∧ w.cell? ⟨blk, off + i * 4 + 3, none⟩ = some (.int .i64 (evAt l i).at_) := by
  obtain ⟨blk, off, h1, h2, h3⟩ := h.get i hi
  rw [← evAt_get l i hi] at h3
  exact ⟨blk, off, h1, h2, h3 0 _ rfl, h3 1 _ rfl, h3 2 _ rfl, h3 3 _ rfl⟩
theorem EvsAt.same {w : World} {p : Nat → Prop} {a : Addr} {n c : Nat} {l : List Ev} (h : EvsAt w p (.slice (some a) n c) l) (i : Nat) (hi : i < l.length) {blk off : Nat} (ha : a = ⟨blk, off, none⟩) :
    p blk ∧ w.cell? ⟨blk, off + i * 4, none⟩ = some (.int .i64 (evAt l i).g) ∧ w.cell? ⟨blk, off + i * 4 + 1, none⟩ = some (.int .i64 (evAt l i).kd) ∧ w.cell? ⟨blk, off + i * 4 + 2, none⟩ = some (.int .i64 (evAt l i).obj) ∧ w.cell? ⟨blk, off + i * 4 + 3, none⟩ = some (.int .i64 (evAt l i).at_) := by
  obtain ⟨b, o, h1, h2⟩ := h.cell4 i hi
  rw [ha] at h1
  injection h1 with h1
  injection h1 with h1 h3
  subst h1 h3
  exact h2
theorem atomic_walk (k : Int) (w : World) : Calls Tryd.prog 44 #[.int .i64 k] w fun e w' => e = .returned (.bool (atmB k)) ∧ w' = w := by
  go_enter Tryd.func44, Tryd.ntmps44
  by_cases h1 : k = 7
  · subst h1
    go_wp2_with fail
    go_ret
    exact ⟨rfl, rfl⟩
  · have t1 : (k == 7) = false := by simp [h1]
    by_cases h2 : k = 8
    · subst h2
      go_wp2_with fail
      go_ret
      exact ⟨rfl, rfl⟩
    · have t2 : (k == 8) = false := by simp [h2]
      have t3 : atmB k = (k == 9) := by simp [atmB, t1, t2]
      rw [t3]
      clear t3 h1 h2
      go_wp2_with fail
      go_ret
      exact ⟨rfl, rfl⟩
set_option maxRecDepth 100000 in
set_option maxHeartbeats 4000000 in
theorem which_walk (l : List Ev) (v : Value) (i : Nat) (w : World) (p : Nat → Prop) (hv : EvsAt w p v l) (hi : i < l.length) (hl : l.length ≤ 1000) :
    Calls Tryd.prog 43 #[v, .int .i64 (i : Int)] w fun e w' => e = .returned (.int .i64 (whichP l i : Nat)) ∧ Keep (fun _ => True) w w' := by
  obtain ⟨va, vc, rfl, hc1, hc2⟩ := hv.form
  obtain ⟨blk, off, rfl, _, _⟩ := hv.cell4 i hi
  have HV := hid hv
  have HS := hid (show ∀ k, sel (evAt l i).kd (evAt l i).obj l (k + 1) = _ from fun k => sel_succ _ _ l k)
  have HW := hid (show whichP l i = (sel (evAt l i).kd (evAt l i).obj l i).length from rfl)
  obtain ⟨kd, hkd⟩ : ∃ kd, (evAt l i).kd = kd := ⟨_, rfl⟩
  obtain ⟨ob, hob⟩ : ∃ ob, (evAt l i).obj = ob := ⟨_, rfl⟩
  have HK := hid (And.intro hkd hob)
  rw [hkd, hob] at HS HW
  clear hv hkd hob
  go_enter Tryd.func43, Tryd.ntmps43
  go_wp2_with fail
  go_loopg [5, 6] i (fun k s5 s6 wr => ∃ (j n : Nat), j + k = i ∧ s6 = .int .i64 (j : Int) ∧ s5 = .int .i64 (n : Int) ∧ n = (sel kd ob l j).length ∧ n ≤ j ∧ Keep (fun _ => True) w wr)
  case atStart => exact ⟨0, 0, by omega, rfl, rfl, rfl, Nat.le_refl _, Keep.refl _ _⟩
  case round =>
    obtain ⟨j, n, hjk, rfl, rfl, hn, hnj, hin⟩ := hrel
    have HI := hid (And.intro hin (And.intro hjk hn))
    by_cases hlt : j < i
    · have l0 : (j : Int) < (i : Int) := by omega
      have l1 : (j : Int) < (l.length : Int) := by omega
      have l2 : (i : Int) < (l.length : Int) := by omega
      obtain ⟨_, g0, g1, g2, g3⟩ := (HV.out.keep hin (fun _ _ => trivial)).same j (by omega) rfl
      obtain ⟨_, i0, i1, i2, i3⟩ := (HV.out.keep hin (fun _ _ => trivial)).same i hi rfl
      rw [HK.out.1] at i1
      rw [HK.out.2] at i2
      have HS1 := hid (HS.out j)
      obtain ⟨ke, hke⟩ : ∃ x, (evAt l j).kd = x := ⟨_, rfl⟩
      obtain ⟨oe, hoe⟩ : ∃ x, (evAt l j).obj = x := ⟨_, rfl⟩
      rw [hke] at HS1 g1
      rw [hoe] at HS1 g2
      have hb : n ≤ 1000 := by omega
      clear hin hjk hn hke hoe g0 g3 i0 i3
      by_cases h1 : ke = kd
      · subst h1
        have t1 : (ke == ke) = true := by simp
        by_cases h2 : oe = ob
        · subst h2
          have t2 : (oe == oe) = true := by simp
          go_wp2_with fail
          go_quiet (fail)
          go_wp2_with fail
          have kq := hid (HI.out.1.drewN nq)
          go_roundg (gk - 1)
          case measure => have := HI.out.2.1; omega
          case rel =>
            refine ⟨j + 1, n + 1, by have := HI.out.2.1; omega, by go_num, by go_num, ?_, by omega, kq.out⟩
            rw [HS1.out, if_pos (by simp), List.length_append, ← HI.out.2.2]; rfl
        · have t2 : (oe == ob) = false := by simp [h2]
          go_wp2_with fail
          go_quiet (fail)
          go_wp2_with fail
          have kq := hid (HI.out.1.drewN nq)
          go_roundg (gk - 1)
          case measure => have := HI.out.2.1; omega
          case rel =>
            refine ⟨j + 1, n, by have := HI.out.2.1; omega, by go_num, rfl, ?_, by omega, kq.out⟩
            rw [HS1.out, if_neg (fun h => h2 h.2), List.append_nil]; exact HI.out.2.2
      · have t1 : (ke == kd) = false := by simp [h1]
        go_wp2_with fail
        go_quiet (fail)
        go_wp2_with fail
        have kq := hid (HI.out.1.drewN nq)
        go_roundg (gk - 1)
        case measure => have := HI.out.2.1; omega
        case rel =>
          refine ⟨j + 1, n, by have := HI.out.2.1; omega, by go_num, rfl, ?_, by omega, kq.out⟩
          rw [HS1.out, if_neg (fun h => h1 h.1), List.append_nil]; exact HI.out.2.2
    · obtain rfl : i = j := by omega
      have hw : n = whichP l i := by rw [HW.out]; exact hn
      have HIN := hid hin
      subst hw
      clear hn hin hnj
      obtain ⟨n, hn⟩ : ∃ n, whichP l i = n := ⟨_, rfl⟩
      rw [hn]
      have HN := hid hn
      clear hn
      go_wp2_with fail
      go_ret
      exact ⟨by rw [HN.out]; rfl, HIN.out⟩
set_option maxRecDepth 100000 in
set_option maxHeartbeats 4000000 in
theorem nth_walk (l : List Ev) (v : Value) (kd ob : Int) (k : Nat) (w : World) (p : Nat → Prop) (hv : EvsAt w p v l) (hk : k ≤ 1000) (hl : l.length ≤ 1000) :
    Calls Tryd.prog 42 #[v, .int .i64 kd, .int .i64 ob, .int .i64 (k : Int)] w fun e w' => e = .returned (.int .i64 (nthP kd ob l k)) ∧ Keep (· < w.heap.size) w w' := by
  obtain ⟨va, vc, rfl, hc1, hc2⟩ := hv.form
  have HV := hid (hv.lt.mono (q := fun b => b < w.heap.size) (fun _ h => h.1))
  clear hv
  go_enter Tryd.func42, Tryd.ntmps42
  go_wp2_with fail
  go_loopg [3, 13] l.length (fun g s3 s13 wr => ∃ (j n : Nat), j + g = l.length ∧ s13 = .int .i64 (j : Int) ∧ s3 = .int .i64 (n : Int) ∧ n + (sel kd ob l j).length = k ∧ Keep (· < w.heap.size) w wr)
  case atStart => exact ⟨0, k, by omega, rfl, rfl, rfl, Keep.refl _ _⟩
  case round =>
    obtain ⟨j, n, hjk, rfl, rfl, hn, hin⟩ := hrel
    have HI := hid (And.intro hin (And.intro hjk hn))
    by_cases hlt : j < l.length
    · have l0 : (j : Int) < (l.length : Int) := by omega
      obtain ⟨x, hx⟩ : ∃ x, l[j] = x := ⟨_, rfl⟩
      obtain ⟨blk, off, hva, hblk, hrg⟩ := HV.out.get j hlt
      rw [hx] at hrg
      subst hva
      have RG := hid (show wr.rangeAt blk (off + j * 4) (evC x) from fun q v hv => (hin.cell (x := ⟨blk, off + j * 4 + q, none⟩) hblk).trans (hrg q v hv))
      have osz := ev_size x
      have o1 : (evC x).toArray.all (·.oneCell') = true := by simp [evC, Value.oneCell']
      have HS1 := hid (sel_succ kd ob l j)
      rw [evAt_get l j hlt, hx] at HS1
      have hn8 : n ≤ 1000 := by omega
      have HX := hid (show evAt l j = x by rw [evAt_get l j hlt]; exact hx)
      clear hin hjk hn hblk hrg
      go_upto_region 4 with (first
        | (refine wpList_load_mid rfl 25 (.tmp 16) rfl blk (off + j * 4) rfl (evC x) _ RG.out Tryd.underlying25 rfl osz ?_)
        | (refine wpList_store_row rfl 25 (.tmp 10) (.tmp 17) rfl wr.heap.size (evC x).toArray rfl rfl 25 _ (heap_alloc_new wr _) (by rw [List.size_toArray]; exact osz) rfl o1 ?_))
      obtain ⟨E, hE⟩ : ∃ E, wr.heap.size = E := ⟨_, rfl⟩
      refine wp_world (fun wa => Keep (· < wr.heap.size) wr wa ∧ wa.heap[wr.heap.size]? = some (.cells (evC x).toArray 25 (0, 0)))
        ⟨((Keep.refl _ _).alloc _ (fun _ h => h)).setRow _ (by simp), heap_setRow (heap_alloc_new wr _) _⟩ ?_
      rintro wa ⟨ka, ra2⟩
      have HA := hid (HI.out.1.trans (ka.mono fun b hb => Nat.lt_of_lt_of_le hb HI.out.1.size))
      rw [hE] at ra2 ⊢
      obtain ⟨g, ke, oe, a⟩ := x
      have e1 : wa.cell? ⟨E, 1, none⟩ = some (.int .i64 ke) := cell_at ra2 1
      have e2 : wa.cell? ⟨E, 2, none⟩ = some (.int .i64 oe) := cell_at ra2 2
      clear ka ra2 hE hx
      have HJ := hid l0
      by_cases h1 : ke = kd
      · subst h1
        have t1 : (ke == ke) = true := by simp
        by_cases h2 : oe = ob
        · subst h2
          have t2 : (oe == oe) = true := by simp
          by_cases h3 : n = 0
          · subst h3
            have hs : (sel ke oe l l.length)[k]? = some j := (sel_get _ _ _ _ _ _).2 ⟨hlt, by rw [HX.out], by rw [HX.out], by have := HI.out.2.2; omega⟩
            have HN := hid (show nthP ke oe l k = (j : Int) by unfold nthP; rw [hs]; rfl)
            clear hs
            go_wp2_with fail
            go_ret
            exact ⟨by rw [HN.out]; rfl, HA.out⟩
          · have t3 : ((n : Int) == 0) = false := by simp [h3]
            have l3 : 1 ≤ n := by omega
            go_wp2_with fail
            go_roundg (gk - 1)
            case measure => have := HI.out.2.1; omega
            case rel =>
              refine ⟨j + 1, n - 1, by have := HI.out.2.1; omega, by go_num, by go_num, ?_, HA.out⟩
              rw [HS1.out, if_pos (by simp), List.length_append]
              have := HI.out.2.2
              simp
              omega
        · have t2 : (oe == ob) = false := by simp [h2]
          go_wp2_with fail
          go_roundg (gk - 1)
          case measure => have := HI.out.2.1; omega
          case rel =>
            refine ⟨j + 1, n, by have := HI.out.2.1; omega, by go_num, rfl, ?_, HA.out⟩
            rw [HS1.out, if_neg (fun h => h2 h.2), List.append_nil]; exact HI.out.2.2
      · have t1 : (ke == kd) = false := by simp [h1]
        go_wp2_with fail
        go_roundg (gk - 1)
        case measure => have := HI.out.2.1; omega
        case rel =>
          refine ⟨j + 1, n, by have := HI.out.2.1; omega, by go_num, rfl, ?_, HA.out⟩
          rw [HS1.out, if_neg (fun h => h1 h.1), List.append_nil]; exact HI.out.2.2
    · obtain rfl : l.length = j := by omega
      have hs : (sel kd ob l l.length)[k]? = none := List.getElem?_eq_none (by omega)
      have HN := hid (show nthP kd ob l k = -1 by unfold nthP; rw [hs]; rfl)
      have HIN := hid hin
      clear hs hn hin
      go_wp2_with fail
      go_ret
      exact ⟨by rw [HN.out]; rfl, HIN.out⟩
end Go.Proofs.YtalihehmbiohlaaDoor
