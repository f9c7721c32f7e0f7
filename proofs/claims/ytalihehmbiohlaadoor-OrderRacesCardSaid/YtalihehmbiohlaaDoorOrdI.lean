/-
  Step by step: chosen of package order.
-/
import Derived.Test.YtalihehmbiohlaaDoorOrdH
import Derived.Test.YtalihehmbiohlaaDoorRowS
import Derived.Test.YtalihehmbiohlaaDoorLoadIf
namespace Go.Proofs.YtalihehmbiohlaaDoor
open Go.RowKit Go.Maps Go.Proofs.Mem Go.Proofs.Txt Go.Proofs.Ord Go.Proofs.Mp

theorem ac_one (e : Ev) (k : Nat) : (acC e k).toArray.all (·.oneCell') = true := by simp [acC, Value.oneCell']
theorem chk {w wx wy : World} {X P P2 B : Nat} {c d : List Value} {z : Array Value} {T : TypeId} (h1 : wx.heap[X]? = some (.cells c.toArray T (0, 0))) (h2 : wx.heap[P]? = some (.cells d.toArray T (0, 0))) (h0 : wx.heap[P2]? = some (.cells z T (0, 0))) (h3 : Keep (fun b => b < B ∧ b < w.heap.size) w wx) (k : Keep (· < wx.heap.size) wx wy) :
    wy.heap[X]? = some (.cells c.toArray T (0, 0)) ∧ wy.heap[P]? = some (.cells d.toArray T (0, 0)) ∧ wy.heap[P2]? = some (.cells z T (0, 0)) ∧ Keep (fun b => b < B ∧ b < w.heap.size) w wy :=
  ⟨(k.block X (Array.getElem?_eq_some_iff.1 h1).1).trans h1, (k.block P (Array.getElem?_eq_some_iff.1 h2).1).trans h2, (k.block P2 (Array.getElem?_eq_some_iff.1 h0).1).trans h0, h3.trans (k.mono fun b hb => Nat.lt_of_lt_of_le hb.2 h3.size)⟩
/-- the rows of accesses. -/
def acs (l : List Ev) (ks : List Nat) : List (List Value) := ks.map fun k => acC (evAt l k) k
theorem acs_length (l : List Ev) (ks : List Nat) : (acs l ks).length = ks.length := by simp [acs]

set_option maxRecDepth 100000 in
set_option maxHeartbeats 8000000 in
theorem chosen_walk (l : List Ev) (ks : List Nat) (v : Value) (w : World) (p : Nat → Prop) (hv : AtS w p 5 v (acs l ks)) (h0 : ks ≠ []) (hlen : ks.length ≤ 1000) :
    Calls Tryd.prog 25 #[v] w fun e w' => e = .returned (.agg (acC (evAt l (told l ks)) (told l ks)).toArray) ∧ Keep (· < w.heap.size) w w' := by
  have HV := hid (hv.lt (by intro x hx; obtain ⟨k, _, rfl⟩ := List.mem_map.1 hx; simp [acC]))
  obtain ⟨va, vc, rfl, hc1, hc2⟩ := hv.form
  rw [acs_length] at hc1 ⊢
  obtain ⟨k0, kt, rfl⟩ := List.exists_cons_of_ne_nil h0
  obtain ⟨C, hC⟩ : ∃ C, told l (k0 :: kt) = C := ⟨_, rfl⟩
  rw [hC]
  have HC := hid (show kt.foldl (fun b k => if better l b k then k else b) k0 = C from hC)
  obtain ⟨blk, off, rfl, _, hr0⟩ := hv.get 0 (x := acC (evAt l k0) k0) rfl
  have R0 := hid (show w.rangeAt blk off (acC (evAt l k0) k0) by rw [Nat.zero_mul, Nat.add_zero] at hr0; exact hr0)
  obtain ⟨n, hn⟩ : ∃ n, (k0 :: kt).length = n := ⟨_, rfl⟩
  have hn1 : kt.length + 1 = n := hn
  rw [hn] at hc1 hlen ⊢
  have l0 : (0 : Int) < (n : Int) := by omega
  have l1 : (1 : Int) ≤ (n : Int) := by omega
  have l2 : (1 : Int) ≤ (vc : Int) := by omega
  have HN := hid hn1
  have HHV := HV
  clear hv hr0 hC h0 hn hn1
  obtain ⟨P2, hP2⟩ : ∃ P, w.heap.size = P := ⟨_, rfl⟩
  have HP2 := hid hP2
  clear hP2
  go_enter Tryd.func25, Tryd.ntmps25
  go_upto_region 1 with fail
  refine wp_world (fun wa => Keep (· < w.heap.size) w wa ∧ wa.heap[w.heap.size]? = some (.cells (acC ⟨0, 0, 0, 0⟩ 0).toArray 60 (0, 0)) ∧ w.heap.size < wa.heap.size) ⟨(Keep.refl _ _).alloc _ (fun _ h => h), heap_alloc_new w _, by simp⟩ ?_
  rintro wa ⟨ka, hZ, zZ⟩
  rw [HP2.out] at hZ zZ ⊢
  have R0a := hid (show wa.rangeAt blk off (acC (evAt l k0) k0) from fun j x hj => (ka.cell (x := ⟨blk, off + j, none⟩) (World.block_lt_of_cell? w _ (R0.out j x hj))).trans (R0.out j x hj))
  have HZ := hid (And.intro ka (And.intro hZ zZ))
  clear ka hZ zZ
  go_upto_region 2 with (first
    | (refine wpList_load_mid rfl 60 (.tmp 7) rfl blk off rfl (acC (evAt l k0) k0) _ R0a.out Tryd.underlying60 rfl (ac_size _ _) ?_)
    | (refine wpList_store_row rfl 60 (.tmp 3) (.tmp 8) rfl wa.heap.size (acC (evAt l k0) k0).toArray rfl rfl 60 _ (heap_alloc_new wa _) (by rw [List.size_toArray]; exact ac_size _ _) rfl (ac_one _ _) ?_))
  refine wp_world (fun wb => Keep (· < wa.heap.size) wa wb ∧ wb.heap[wa.heap.size]? = some (.cells (acC (evAt l k0) k0).toArray 60 (0, 0))) ⟨((Keep.refl _ _).alloc _ (fun _ h => h)).setRow _ (by simp), heap_setRow (heap_alloc_new wa _) _⟩ ?_
  rintro wb ⟨kb, hb⟩
  obtain ⟨P3, hP3⟩ : ∃ P, wa.heap.size = P := ⟨_, rfl⟩
  rw [hP3] at hb ⊢
  have HNE := hid (show P2 ≠ P3 ∧ w.heap.size ≤ P3 ∧ P2 = w.heap.size from ⟨by have := HZ.out.2.2; omega, by rw [← hP3]; exact HZ.out.1.size, HP2.out.symm⟩)
  have HB := hid (show wb.heap[P3]? = some (.cells (acC (evAt l k0) k0).toArray 60 (0, 0)) ∧ wb.heap[P2]? = some (.cells (acC ⟨0, 0, 0, 0⟩ 0).toArray 60 (0, 0)) ∧ Keep (fun b => b < w.heap.size ∧ b < w.heap.size) w wb from ⟨hb, (kb.block P2 HZ.out.2.2).trans HZ.out.2.1, (HZ.out.1.mono fun b hb => hb.1).trans (kb.mono fun b hb => Nat.lt_of_lt_of_le hb.1 HZ.out.1.size)⟩)
  clear kb hb hP3 HZ R0a
  obtain ⟨m, hm⟩ : ∃ m, kt.length = m := ⟨_, rfl⟩
  have HM := hid hm
  have hnm : n = m + 1 := by have := HN.out; omega
  clear hm
  subst hnm
  have HEND := hid (show ∀ (wz : World) (c : Nat), c = C → wz.heap[P3]? = some (.cells (acC (evAt l c) c).toArray 60 (0, 0)) → wz.heap[P2]? = some (.cells (acC ⟨0, 0, 0, 0⟩ 0).toArray 60 (0, 0)) → Keep (fun b => b < w.heap.size ∧ b < w.heap.size) w wz → (wz.setRow P2 (acC (evAt l C) C).toArray).heap[P2]? = some (.cells (acC (evAt l C) C).toArray 60 (0, 0)) ∧ Keep (· < w.heap.size) w (wz.setRow P2 (acC (evAt l C) C).toArray) from fun wz c hc h1 h2 h3 => ⟨heap_setRow h2 _, (h3.mono fun b hb => ⟨hb, hb⟩).trans (((Keep.refl (· ≠ P2) wz).setRow _ (by simp)).mono fun b (hb : b < w.heap.size) => by have := HNE.out.2.2; omega)⟩)
  by_cases hv1 : vc = 1
  · subst hv1
    obtain rfl : m = 0 := by omega
    go_upto_region 3 with fail
    go_loopg [12] 0 (fun k s12 wr => k = 0 ∧ s12 = .int .i64 0 ∧ wr = wb)
    case atStart => exact ⟨rfl, rfl, rfl⟩
    case round =>
      obtain ⟨rfl, rfl, rfl⟩ := hrel
      obtain rfl : kt = [] := List.eq_nil_of_length_eq_zero HM.out
      have hC : k0 = C := HC.out
      rw [hC] at HB
      have HF0 := HEND.out _ _ rfl HB.out.1 HB.out.2.1 HB.out.2.2
      have HF := hid (And.intro (range_whole HB.out.1) (And.intro HB.out.2.1 HF0))
      clear HF0
      go_wp2_with (first | (refine wpList_load_mid rfl 60 (.tmp 3) rfl P3 0 rfl (acC (evAt l C) C) _ HF.out.1 Tryd.underlying60 rfl (ac_size _ _) ?_) | (refine wpList_store_row rfl 60 (.tmp 2) (.tmp 51) rfl P2 (acC (evAt l C) C).toArray rfl rfl 60 _ HF.out.2.1 (by rw [List.size_toArray]; exact ac_size _ _) rfl (ac_one _ _) ?_))
      refine bodyPost_ret (v := .agg (acC (evAt l C) C).toArray) (results_cell_row rfl _ _ P2 60 _ (0, 0) _ rfl HF.out.2.2.1 Tryd.underlying60 rfl (by rw [List.size_toArray]; exact ac_size _ _)) rfl ?_
      exact ⟨rfl, HF.out.2.2.2⟩
  · have hv2 : ¬ vc = 1 := hv1
    go_upto_region 3 with fail
    go_loopg [12] m (fun k s12 wr => ∃ (j b : Nat), j + k = m ∧ s12 = .int .i64 (j : Int) ∧ (kt.take j).foldl (fun b k => if better l b k then k else b) k0 = b ∧ wr.heap[P3]? = some (.cells (acC (evAt l b) b).toArray 60 (0, 0)) ∧ wr.heap[P2]? = some (.cells (acC ⟨0, 0, 0, 0⟩ 0).toArray 60 (0, 0)) ∧ Keep (fun b => b < w.heap.size ∧ b < w.heap.size) w wr)
    case atStart => exact ⟨0, k0, by omega, rfl, rfl, HB.out⟩
    case round =>
      obtain ⟨j, b, hjm, rfl, hb, h1, h2, h3⟩ := hrel
      have HH := hid (And.intro h1 (And.intro h2 h3))
      clear h1 h2 h3
      by_cases hlt : j < m
      · have l5 : (j : Int) < (m : Int) := by omega
        obtain ⟨k, hk⟩ : ∃ k, kt[j]? = some k := ⟨_, List.getElem?_eq_getElem (by have := HM.out; omega)⟩
        have HSTEP := hid (show (kt.take (j + 1)).foldl (fun b k => if better l b k then k else b) k0 = if better l b k then k else b by
          have hj' : j < kt.length := by have := HM.out; omega
          rw [List.take_succ_eq_append_getElem hj', List.foldl_append, hb]
          rw [List.getElem?_eq_getElem hj'] at hk
          injection hk with hk
          rw [hk]; rfl)
        obtain ⟨blk', off', e, hblk, hrg⟩ := HV.out.get (j + 1) (x := acC (evAt l k) k) (by simp [acs, hk])
        injection e with e
        injection e with e1 e2
        subst e1 e2
        have RK := hid (show wr.rangeAt blk (off + 5 + j * 5) (acC (evAt l k) k) from fun i x hi => by
          have h5 := hrg i x hi
          rw [show off + (j + 1) * 5 + i = off + 5 + j * 5 + i by omega] at h5
          exact (HH.out.2.2.cell (x := ⟨blk, off + 5 + j * 5 + i, none⟩) ⟨hblk.1, hblk.1⟩).trans h5)
        have HI := hid (And.intro hjm hlt)
        obtain ⟨ek, hek⟩ : ∃ e, evAt l k = e := ⟨_, rfl⟩
        obtain ⟨eb, heb⟩ : ∃ e, evAt l b = e := ⟨_, rfl⟩
        rw [hek] at RK
        rw [heb] at HH
        have HG1 := hid hek
        have HG2 := hid heb
        obtain ⟨g1, d1, o1, a1⟩ := ek
        obtain ⟨g2, d2, o2, a2⟩ := eb
        clear hk hb hrg hblk hjm hlt hek heb
        go_upto_region 5 with (first
          | (refine wpList_load_mid rfl 60 (.tmp 14) rfl blk (off + 5 + j * 5) rfl (acC ⟨g1, d1, o1, a1⟩ k) _ RK.out Tryd.underlying60 rfl (ac_size _ _) ?_)
          | (refine wpList_store_row rfl 60 (.tmp 5) (.tmp 15) rfl wr.heap.size (acC ⟨g1, d1, o1, a1⟩ k).toArray rfl rfl 60 _ (heap_alloc_new wr _) (by rw [List.size_toArray]; exact ac_size _ _) rfl (ac_one _ _) ?_))
        refine wp_world (fun wx => Keep (· < wr.heap.size) wr wx ∧ wx.heap[wr.heap.size]? = some (.cells (acC ⟨g1, d1, o1, a1⟩ k).toArray 60 (0, 0))) ⟨((Keep.refl _ _).alloc _ (fun _ h => h)).setRow _ (by simp), heap_setRow (heap_alloc_new wr _) _⟩ ?_
        rintro wx ⟨kx, hx5⟩
        obtain ⟨X5, hX5⟩ : ∃ X, wr.heap.size = X := ⟨_, rfl⟩
        have HT := hid (show wx.heap[wr.heap.size]? = some (.cells (acC ⟨g1, d1, o1, a1⟩ k).toArray 60 (0, 0)) ∧ wx.heap[P3]? = some (.cells (acC ⟨g2, d2, o2, a2⟩ b).toArray 60 (0, 0)) ∧ wx.heap[P2]? = some (.cells (acC ⟨0, 0, 0, 0⟩ 0).toArray 60 (0, 0)) ∧ Keep (fun b => b < w.heap.size ∧ b < w.heap.size) w wx from
          ⟨hx5, (kx.block P3 (Array.getElem?_eq_some_iff.1 HH.out.1).1).trans HH.out.1, (kx.block P2 (Array.getElem?_eq_some_iff.1 HH.out.2.1).1).trans HH.out.2.1, HH.out.2.2.trans (kx.mono fun b hb => Nat.lt_of_lt_of_le hb.1 HH.out.2.2.size)⟩)
        rw [hX5] at HT ⊢
        clear kx hx5 hX5 HH RK
        have ca0 : wx.cell? ⟨X5, 0, none⟩ = some (.int .i64 g1) := cell_at HT.out.1 0
        have ca1 : wx.cell? ⟨X5, 1, none⟩ = some (.int .i64 d1) := cell_at HT.out.1 1
        have ca2 : wx.cell? ⟨X5, 2, none⟩ = some (.int .i64 o1) := cell_at HT.out.1 2
        have ca3 : wx.cell? ⟨X5, 3, none⟩ = some (.int .i64 a1) := cell_at HT.out.1 3
        have ca4 : wx.cell? ⟨X5, 4, none⟩ = some (.int .i64 (k : Int)) := cell_at HT.out.1 4
        have cb0 : wx.cell? ⟨P3, 0, none⟩ = some (.int .i64 g2) := cell_at HT.out.2.1 0
        have cb1 : wx.cell? ⟨P3, 1, none⟩ = some (.int .i64 d2) := cell_at HT.out.2.1 1
        have cb2 : wx.cell? ⟨P3, 2, none⟩ = some (.int .i64 o2) := cell_at HT.out.2.1 2
        have cb3 : wx.cell? ⟨P3, 3, none⟩ = some (.int .i64 a2) := cell_at HT.out.2.1 3
        have cb4 : wx.cell? ⟨P3, 4, none⟩ = some (.int .i64 (b : Int)) := cell_at HT.out.2.1 4
        cases hwk : Ev.wr ⟨g1, d1, o1, a1⟩
        · cases hwb : Ev.wr ⟨g2, d2, o2, a2⟩
          · by_cases hgg : g1 ≤ g2
            · have HWK := hid (show Ev.wr ⟨g1, d1, o1, a1⟩ = false from hwk)
              have HWB := hid (show Ev.wr ⟨g2, d2, o2, a2⟩ = false from hwb)
              have q1 : decide (g1 ≤ g2) = true := by simp [hgg]
              have HB2 := hid (show better l b k = true from by unfold better; rw [HG1.out, HG2.out, hwk, hwb]; simp [hgg])
              clear hwk hwb
              go_wp2_with fail
              refine (writes_walk ⟨g1, d1, o1, a1⟩ k _).mono ?_
              rintro e wn8 ⟨rfl, kn⟩
              rw [HWK.out]
              have HT8 := hid (chk HT.out.1 HT.out.2.1 HT.out.2.2.1 HT.out.2.2.2 kn)
              clear HT kn ca0 ca1 ca2 ca3 ca4 cb0 cb1 cb2 cb3 cb4
              have HT := HT8
              clear HT8
              have ca0 : wn8.cell? ⟨X5, 0, none⟩ = some (.int .i64 g1) := cell_at HT.out.1 0
              have ca1 : wn8.cell? ⟨X5, 1, none⟩ = some (.int .i64 d1) := cell_at HT.out.1 1
              have ca2 : wn8.cell? ⟨X5, 2, none⟩ = some (.int .i64 o1) := cell_at HT.out.1 2
              have ca3 : wn8.cell? ⟨X5, 3, none⟩ = some (.int .i64 a1) := cell_at HT.out.1 3
              have ca4 : wn8.cell? ⟨X5, 4, none⟩ = some (.int .i64 (k : Int)) := cell_at HT.out.1 4
              have cb0 : wn8.cell? ⟨P3, 0, none⟩ = some (.int .i64 g2) := cell_at HT.out.2.1 0
              have cb1 : wn8.cell? ⟨P3, 1, none⟩ = some (.int .i64 d2) := cell_at HT.out.2.1 1
              have cb2 : wn8.cell? ⟨P3, 2, none⟩ = some (.int .i64 o2) := cell_at HT.out.2.1 2
              have cb3 : wn8.cell? ⟨P3, 3, none⟩ = some (.int .i64 a2) := cell_at HT.out.2.1 3
              have cb4 : wn8.cell? ⟨P3, 4, none⟩ = some (.int .i64 (b : Int)) := cell_at HT.out.2.1 4
              go_wp2_with fail
              refine (writes_walk ⟨g1, d1, o1, a1⟩ k _).mono ?_
              rintro e wn9 ⟨rfl, kn⟩
              rw [HWK.out]
              have HT9 := hid (chk HT.out.1 HT.out.2.1 HT.out.2.2.1 HT.out.2.2.2 kn)
              clear HT kn ca0 ca1 ca2 ca3 ca4 cb0 cb1 cb2 cb3 cb4
              have HT := HT9
              clear HT9
              have ca0 : wn9.cell? ⟨X5, 0, none⟩ = some (.int .i64 g1) := cell_at HT.out.1 0
              have ca1 : wn9.cell? ⟨X5, 1, none⟩ = some (.int .i64 d1) := cell_at HT.out.1 1
              have ca2 : wn9.cell? ⟨X5, 2, none⟩ = some (.int .i64 o1) := cell_at HT.out.1 2
              have ca3 : wn9.cell? ⟨X5, 3, none⟩ = some (.int .i64 a1) := cell_at HT.out.1 3
              have ca4 : wn9.cell? ⟨X5, 4, none⟩ = some (.int .i64 (k : Int)) := cell_at HT.out.1 4
              have cb0 : wn9.cell? ⟨P3, 0, none⟩ = some (.int .i64 g2) := cell_at HT.out.2.1 0
              have cb1 : wn9.cell? ⟨P3, 1, none⟩ = some (.int .i64 d2) := cell_at HT.out.2.1 1
              have cb2 : wn9.cell? ⟨P3, 2, none⟩ = some (.int .i64 o2) := cell_at HT.out.2.1 2
              have cb3 : wn9.cell? ⟨P3, 3, none⟩ = some (.int .i64 a2) := cell_at HT.out.2.1 3
              have cb4 : wn9.cell? ⟨P3, 4, none⟩ = some (.int .i64 (b : Int)) := cell_at HT.out.2.1 4
              go_wp2_with fail
              refine (writes_walk ⟨g2, d2, o2, a2⟩ b _).mono ?_
              rintro e wn10 ⟨rfl, kn⟩
              rw [HWB.out]
              have HT10 := hid (chk HT.out.1 HT.out.2.1 HT.out.2.2.1 HT.out.2.2.2 kn)
              clear HT kn ca0 ca1 ca2 ca3 ca4 cb0 cb1 cb2 cb3 cb4
              have HT := HT10
              clear HT10
              have ca0 : wn10.cell? ⟨X5, 0, none⟩ = some (.int .i64 g1) := cell_at HT.out.1 0
              have ca1 : wn10.cell? ⟨X5, 1, none⟩ = some (.int .i64 d1) := cell_at HT.out.1 1
              have ca2 : wn10.cell? ⟨X5, 2, none⟩ = some (.int .i64 o1) := cell_at HT.out.1 2
              have ca3 : wn10.cell? ⟨X5, 3, none⟩ = some (.int .i64 a1) := cell_at HT.out.1 3
              have ca4 : wn10.cell? ⟨X5, 4, none⟩ = some (.int .i64 (k : Int)) := cell_at HT.out.1 4
              have cb0 : wn10.cell? ⟨P3, 0, none⟩ = some (.int .i64 g2) := cell_at HT.out.2.1 0
              have cb1 : wn10.cell? ⟨P3, 1, none⟩ = some (.int .i64 d2) := cell_at HT.out.2.1 1
              have cb2 : wn10.cell? ⟨P3, 2, none⟩ = some (.int .i64 o2) := cell_at HT.out.2.1 2
              have cb3 : wn10.cell? ⟨P3, 3, none⟩ = some (.int .i64 a2) := cell_at HT.out.2.1 3
              have cb4 : wn10.cell? ⟨P3, 4, none⟩ = some (.int .i64 (b : Int)) := cell_at HT.out.2.1 4
              go_upto_region 6 with fail
              go_wp2_with (refine wpList_store_row rfl 60 (.tmp 3) (.tmp 49) rfl P3 (acC ⟨g1, d1, o1, a1⟩ k).toArray rfl rfl 60 _ HT.out.2.1 (by rw [List.size_toArray]; exact ac_size _ _) rfl (ac_one _ _) ?_)
              go_roundg (gk - 1)
              case measure => have := HI.out; omega
              case rel =>
                have kk : Keep (· ≠ P3) wn10 (wn10.setRow P3 (acC ⟨g1, d1, o1, a1⟩ k).toArray) := (Keep.refl _ _).setRow _ (by simp)
                exact ⟨j + 1, k, by have := HI.out; omega, by go_num, by rw [HSTEP.out, if_pos HB2.out], by rw [HG1.out]; exact heap_setRow HT.out.2.1 _, (kk.block P2 HNE.out.1).trans HT.out.2.2.1, HT.out.2.2.2.trans (kk.mono fun x hx => by have := HNE.out.2; omega)⟩
            · have HWK := hid (show Ev.wr ⟨g1, d1, o1, a1⟩ = false from hwk)
              have HWB := hid (show Ev.wr ⟨g2, d2, o2, a2⟩ = false from hwb)
              have q1 : decide (g1 ≤ g2) = false := by simp [hgg]
              have HB2 := hid (show better l b k = false from by unfold better; rw [HG1.out, HG2.out, hwk, hwb]; simp [hgg])
              clear hwk hwb
              go_wp2_with fail
              refine (writes_walk ⟨g1, d1, o1, a1⟩ k _).mono ?_
              rintro e wn11 ⟨rfl, kn⟩
              rw [HWK.out]
              have HT11 := hid (chk HT.out.1 HT.out.2.1 HT.out.2.2.1 HT.out.2.2.2 kn)
              clear HT kn ca0 ca1 ca2 ca3 ca4 cb0 cb1 cb2 cb3 cb4
              have HT := HT11
              clear HT11
              have ca0 : wn11.cell? ⟨X5, 0, none⟩ = some (.int .i64 g1) := cell_at HT.out.1 0
              have ca1 : wn11.cell? ⟨X5, 1, none⟩ = some (.int .i64 d1) := cell_at HT.out.1 1
              have ca2 : wn11.cell? ⟨X5, 2, none⟩ = some (.int .i64 o1) := cell_at HT.out.1 2
              have ca3 : wn11.cell? ⟨X5, 3, none⟩ = some (.int .i64 a1) := cell_at HT.out.1 3
              have ca4 : wn11.cell? ⟨X5, 4, none⟩ = some (.int .i64 (k : Int)) := cell_at HT.out.1 4
              have cb0 : wn11.cell? ⟨P3, 0, none⟩ = some (.int .i64 g2) := cell_at HT.out.2.1 0
              have cb1 : wn11.cell? ⟨P3, 1, none⟩ = some (.int .i64 d2) := cell_at HT.out.2.1 1
              have cb2 : wn11.cell? ⟨P3, 2, none⟩ = some (.int .i64 o2) := cell_at HT.out.2.1 2
              have cb3 : wn11.cell? ⟨P3, 3, none⟩ = some (.int .i64 a2) := cell_at HT.out.2.1 3
              have cb4 : wn11.cell? ⟨P3, 4, none⟩ = some (.int .i64 (b : Int)) := cell_at HT.out.2.1 4
              go_wp2_with fail
              refine (writes_walk ⟨g1, d1, o1, a1⟩ k _).mono ?_
              rintro e wn12 ⟨rfl, kn⟩
              rw [HWK.out]
              have HT12 := hid (chk HT.out.1 HT.out.2.1 HT.out.2.2.1 HT.out.2.2.2 kn)
              clear HT kn ca0 ca1 ca2 ca3 ca4 cb0 cb1 cb2 cb3 cb4
              have HT := HT12
              clear HT12
              have ca0 : wn12.cell? ⟨X5, 0, none⟩ = some (.int .i64 g1) := cell_at HT.out.1 0
              have ca1 : wn12.cell? ⟨X5, 1, none⟩ = some (.int .i64 d1) := cell_at HT.out.1 1
              have ca2 : wn12.cell? ⟨X5, 2, none⟩ = some (.int .i64 o1) := cell_at HT.out.1 2
              have ca3 : wn12.cell? ⟨X5, 3, none⟩ = some (.int .i64 a1) := cell_at HT.out.1 3
              have ca4 : wn12.cell? ⟨X5, 4, none⟩ = some (.int .i64 (k : Int)) := cell_at HT.out.1 4
              have cb0 : wn12.cell? ⟨P3, 0, none⟩ = some (.int .i64 g2) := cell_at HT.out.2.1 0
              have cb1 : wn12.cell? ⟨P3, 1, none⟩ = some (.int .i64 d2) := cell_at HT.out.2.1 1
              have cb2 : wn12.cell? ⟨P3, 2, none⟩ = some (.int .i64 o2) := cell_at HT.out.2.1 2
              have cb3 : wn12.cell? ⟨P3, 3, none⟩ = some (.int .i64 a2) := cell_at HT.out.2.1 3
              have cb4 : wn12.cell? ⟨P3, 4, none⟩ = some (.int .i64 (b : Int)) := cell_at HT.out.2.1 4
              go_wp2_with fail
              refine (writes_walk ⟨g2, d2, o2, a2⟩ b _).mono ?_
              rintro e wn13 ⟨rfl, kn⟩
              rw [HWB.out]
              have HT13 := hid (chk HT.out.1 HT.out.2.1 HT.out.2.2.1 HT.out.2.2.2 kn)
              clear HT kn ca0 ca1 ca2 ca3 ca4 cb0 cb1 cb2 cb3 cb4
              have HT := HT13
              clear HT13
              have ca0 : wn13.cell? ⟨X5, 0, none⟩ = some (.int .i64 g1) := cell_at HT.out.1 0
              have ca1 : wn13.cell? ⟨X5, 1, none⟩ = some (.int .i64 d1) := cell_at HT.out.1 1
              have ca2 : wn13.cell? ⟨X5, 2, none⟩ = some (.int .i64 o1) := cell_at HT.out.1 2
              have ca3 : wn13.cell? ⟨X5, 3, none⟩ = some (.int .i64 a1) := cell_at HT.out.1 3
              have ca4 : wn13.cell? ⟨X5, 4, none⟩ = some (.int .i64 (k : Int)) := cell_at HT.out.1 4
              have cb0 : wn13.cell? ⟨P3, 0, none⟩ = some (.int .i64 g2) := cell_at HT.out.2.1 0
              have cb1 : wn13.cell? ⟨P3, 1, none⟩ = some (.int .i64 d2) := cell_at HT.out.2.1 1
              have cb2 : wn13.cell? ⟨P3, 2, none⟩ = some (.int .i64 o2) := cell_at HT.out.2.1 2
              have cb3 : wn13.cell? ⟨P3, 3, none⟩ = some (.int .i64 a2) := cell_at HT.out.2.1 3
              have cb4 : wn13.cell? ⟨P3, 4, none⟩ = some (.int .i64 (b : Int)) := cell_at HT.out.2.1 4
              go_wp2_with fail
              go_roundg (gk - 1)
              case measure => have := HI.out; omega
              case rel => exact ⟨j + 1, b, by have := HI.out; omega, by go_num, by rw [HSTEP.out, if_neg (by rw [HB2.out]; simp)], by rw [HG2.out]; exact HT.out.2.1, HT.out.2.2.1, HT.out.2.2.2⟩
          · have HWK := hid (show Ev.wr ⟨g1, d1, o1, a1⟩ = false from hwk)
            have HWB := hid (show Ev.wr ⟨g2, d2, o2, a2⟩ = true from hwb)
            have HB2 := hid (show better l b k = false from by unfold better; rw [HG1.out, HG2.out, hwk, hwb]; simp)
            clear hwk hwb
            go_wp2_with fail
            refine (writes_walk ⟨g1, d1, o1, a1⟩ k _).mono ?_
            rintro e wn14 ⟨rfl, kn⟩
            rw [HWK.out]
            have HT14 := hid (chk HT.out.1 HT.out.2.1 HT.out.2.2.1 HT.out.2.2.2 kn)
            clear HT kn ca0 ca1 ca2 ca3 ca4 cb0 cb1 cb2 cb3 cb4
            have HT := HT14
            clear HT14
            have ca0 : wn14.cell? ⟨X5, 0, none⟩ = some (.int .i64 g1) := cell_at HT.out.1 0
            have ca1 : wn14.cell? ⟨X5, 1, none⟩ = some (.int .i64 d1) := cell_at HT.out.1 1
            have ca2 : wn14.cell? ⟨X5, 2, none⟩ = some (.int .i64 o1) := cell_at HT.out.1 2
            have ca3 : wn14.cell? ⟨X5, 3, none⟩ = some (.int .i64 a1) := cell_at HT.out.1 3
            have ca4 : wn14.cell? ⟨X5, 4, none⟩ = some (.int .i64 (k : Int)) := cell_at HT.out.1 4
            have cb0 : wn14.cell? ⟨P3, 0, none⟩ = some (.int .i64 g2) := cell_at HT.out.2.1 0
            have cb1 : wn14.cell? ⟨P3, 1, none⟩ = some (.int .i64 d2) := cell_at HT.out.2.1 1
            have cb2 : wn14.cell? ⟨P3, 2, none⟩ = some (.int .i64 o2) := cell_at HT.out.2.1 2
            have cb3 : wn14.cell? ⟨P3, 3, none⟩ = some (.int .i64 a2) := cell_at HT.out.2.1 3
            have cb4 : wn14.cell? ⟨P3, 4, none⟩ = some (.int .i64 (b : Int)) := cell_at HT.out.2.1 4
            go_wp2_with fail
            refine (writes_walk ⟨g1, d1, o1, a1⟩ k _).mono ?_
            rintro e wn15 ⟨rfl, kn⟩
            rw [HWK.out]
            have HT15 := hid (chk HT.out.1 HT.out.2.1 HT.out.2.2.1 HT.out.2.2.2 kn)
            clear HT kn ca0 ca1 ca2 ca3 ca4 cb0 cb1 cb2 cb3 cb4
            have HT := HT15
            clear HT15
            have ca0 : wn15.cell? ⟨X5, 0, none⟩ = some (.int .i64 g1) := cell_at HT.out.1 0
            have ca1 : wn15.cell? ⟨X5, 1, none⟩ = some (.int .i64 d1) := cell_at HT.out.1 1
            have ca2 : wn15.cell? ⟨X5, 2, none⟩ = some (.int .i64 o1) := cell_at HT.out.1 2
            have ca3 : wn15.cell? ⟨X5, 3, none⟩ = some (.int .i64 a1) := cell_at HT.out.1 3
            have ca4 : wn15.cell? ⟨X5, 4, none⟩ = some (.int .i64 (k : Int)) := cell_at HT.out.1 4
            have cb0 : wn15.cell? ⟨P3, 0, none⟩ = some (.int .i64 g2) := cell_at HT.out.2.1 0
            have cb1 : wn15.cell? ⟨P3, 1, none⟩ = some (.int .i64 d2) := cell_at HT.out.2.1 1
            have cb2 : wn15.cell? ⟨P3, 2, none⟩ = some (.int .i64 o2) := cell_at HT.out.2.1 2
            have cb3 : wn15.cell? ⟨P3, 3, none⟩ = some (.int .i64 a2) := cell_at HT.out.2.1 3
            have cb4 : wn15.cell? ⟨P3, 4, none⟩ = some (.int .i64 (b : Int)) := cell_at HT.out.2.1 4
            go_wp2_with fail
            refine (writes_walk ⟨g2, d2, o2, a2⟩ b _).mono ?_
            rintro e wn16 ⟨rfl, kn⟩
            rw [HWB.out]
            have HT16 := hid (chk HT.out.1 HT.out.2.1 HT.out.2.2.1 HT.out.2.2.2 kn)
            clear HT kn ca0 ca1 ca2 ca3 ca4 cb0 cb1 cb2 cb3 cb4
            have HT := HT16
            clear HT16
            have ca0 : wn16.cell? ⟨X5, 0, none⟩ = some (.int .i64 g1) := cell_at HT.out.1 0
            have ca1 : wn16.cell? ⟨X5, 1, none⟩ = some (.int .i64 d1) := cell_at HT.out.1 1
            have ca2 : wn16.cell? ⟨X5, 2, none⟩ = some (.int .i64 o1) := cell_at HT.out.1 2
            have ca3 : wn16.cell? ⟨X5, 3, none⟩ = some (.int .i64 a1) := cell_at HT.out.1 3
            have ca4 : wn16.cell? ⟨X5, 4, none⟩ = some (.int .i64 (k : Int)) := cell_at HT.out.1 4
            have cb0 : wn16.cell? ⟨P3, 0, none⟩ = some (.int .i64 g2) := cell_at HT.out.2.1 0
            have cb1 : wn16.cell? ⟨P3, 1, none⟩ = some (.int .i64 d2) := cell_at HT.out.2.1 1
            have cb2 : wn16.cell? ⟨P3, 2, none⟩ = some (.int .i64 o2) := cell_at HT.out.2.1 2
            have cb3 : wn16.cell? ⟨P3, 3, none⟩ = some (.int .i64 a2) := cell_at HT.out.2.1 3
            have cb4 : wn16.cell? ⟨P3, 4, none⟩ = some (.int .i64 (b : Int)) := cell_at HT.out.2.1 4
            go_wp2_with fail
            go_roundg (gk - 1)
            case measure => have := HI.out; omega
            case rel => exact ⟨j + 1, b, by have := HI.out; omega, by go_num, by rw [HSTEP.out, if_neg (by rw [HB2.out]; simp)], by rw [HG2.out]; exact HT.out.2.1, HT.out.2.2.1, HT.out.2.2.2⟩
        · cases hwb : Ev.wr ⟨g2, d2, o2, a2⟩
          · have HWK := hid (show Ev.wr ⟨g1, d1, o1, a1⟩ = true from hwk)
            have HWB := hid (show Ev.wr ⟨g2, d2, o2, a2⟩ = false from hwb)
            have HB2 := hid (show better l b k = true from by unfold better; rw [HG1.out, HG2.out, hwk, hwb]; simp)
            clear hwk hwb
            go_wp2_with fail
            refine (writes_walk ⟨g1, d1, o1, a1⟩ k _).mono ?_
            rintro e wn1 ⟨rfl, kn⟩
            rw [HWK.out]
            have HT1 := hid (chk HT.out.1 HT.out.2.1 HT.out.2.2.1 HT.out.2.2.2 kn)
            clear HT kn ca0 ca1 ca2 ca3 ca4 cb0 cb1 cb2 cb3 cb4
            have HT := HT1
            clear HT1
            have ca0 : wn1.cell? ⟨X5, 0, none⟩ = some (.int .i64 g1) := cell_at HT.out.1 0
            have ca1 : wn1.cell? ⟨X5, 1, none⟩ = some (.int .i64 d1) := cell_at HT.out.1 1
            have ca2 : wn1.cell? ⟨X5, 2, none⟩ = some (.int .i64 o1) := cell_at HT.out.1 2
            have ca3 : wn1.cell? ⟨X5, 3, none⟩ = some (.int .i64 a1) := cell_at HT.out.1 3
            have ca4 : wn1.cell? ⟨X5, 4, none⟩ = some (.int .i64 (k : Int)) := cell_at HT.out.1 4
            have cb0 : wn1.cell? ⟨P3, 0, none⟩ = some (.int .i64 g2) := cell_at HT.out.2.1 0
            have cb1 : wn1.cell? ⟨P3, 1, none⟩ = some (.int .i64 d2) := cell_at HT.out.2.1 1
            have cb2 : wn1.cell? ⟨P3, 2, none⟩ = some (.int .i64 o2) := cell_at HT.out.2.1 2
            have cb3 : wn1.cell? ⟨P3, 3, none⟩ = some (.int .i64 a2) := cell_at HT.out.2.1 3
            have cb4 : wn1.cell? ⟨P3, 4, none⟩ = some (.int .i64 (b : Int)) := cell_at HT.out.2.1 4
            go_wp2_with fail
            refine (writes_walk ⟨g2, d2, o2, a2⟩ b _).mono ?_
            rintro e wn2 ⟨rfl, kn⟩
            rw [HWB.out]
            have HT2 := hid (chk HT.out.1 HT.out.2.1 HT.out.2.2.1 HT.out.2.2.2 kn)
            clear HT kn ca0 ca1 ca2 ca3 ca4 cb0 cb1 cb2 cb3 cb4
            have HT := HT2
            clear HT2
            have ca0 : wn2.cell? ⟨X5, 0, none⟩ = some (.int .i64 g1) := cell_at HT.out.1 0
            have ca1 : wn2.cell? ⟨X5, 1, none⟩ = some (.int .i64 d1) := cell_at HT.out.1 1
            have ca2 : wn2.cell? ⟨X5, 2, none⟩ = some (.int .i64 o1) := cell_at HT.out.1 2
            have ca3 : wn2.cell? ⟨X5, 3, none⟩ = some (.int .i64 a1) := cell_at HT.out.1 3
            have ca4 : wn2.cell? ⟨X5, 4, none⟩ = some (.int .i64 (k : Int)) := cell_at HT.out.1 4
            have cb0 : wn2.cell? ⟨P3, 0, none⟩ = some (.int .i64 g2) := cell_at HT.out.2.1 0
            have cb1 : wn2.cell? ⟨P3, 1, none⟩ = some (.int .i64 d2) := cell_at HT.out.2.1 1
            have cb2 : wn2.cell? ⟨P3, 2, none⟩ = some (.int .i64 o2) := cell_at HT.out.2.1 2
            have cb3 : wn2.cell? ⟨P3, 3, none⟩ = some (.int .i64 a2) := cell_at HT.out.2.1 3
            have cb4 : wn2.cell? ⟨P3, 4, none⟩ = some (.int .i64 (b : Int)) := cell_at HT.out.2.1 4
            go_upto_region 6 with fail
            go_wp2_with (refine wpList_store_row rfl 60 (.tmp 3) (.tmp 49) rfl P3 (acC ⟨g1, d1, o1, a1⟩ k).toArray rfl rfl 60 _ HT.out.2.1 (by rw [List.size_toArray]; exact ac_size _ _) rfl (ac_one _ _) ?_)
            go_roundg (gk - 1)
            case measure => have := HI.out; omega
            case rel =>
              have kk : Keep (· ≠ P3) wn2 (wn2.setRow P3 (acC ⟨g1, d1, o1, a1⟩ k).toArray) := (Keep.refl _ _).setRow _ (by simp)
              exact ⟨j + 1, k, by have := HI.out; omega, by go_num, by rw [HSTEP.out, if_pos HB2.out], by rw [HG1.out]; exact heap_setRow HT.out.2.1 _, (kk.block P2 HNE.out.1).trans HT.out.2.2.1, HT.out.2.2.2.trans (kk.mono fun x hx => by have := HNE.out.2; omega)⟩
          · by_cases hbk : b < k
            · have HWK := hid (show Ev.wr ⟨g1, d1, o1, a1⟩ = true from hwk)
              have HWB := hid (show Ev.wr ⟨g2, d2, o2, a2⟩ = true from hwb)
              have q1 : decide ((b : Int) < (k : Int)) = true := by simp; omega
              have q2 : decide (b < k) = true := by simp; omega
              have HB2 := hid (show better l b k = true from by unfold better; rw [HG1.out, HG2.out, hwk, hwb]; simp [hbk])
              clear hwk hwb
              go_wp2_with fail
              refine (writes_walk ⟨g1, d1, o1, a1⟩ k _).mono ?_
              rintro e wn3 ⟨rfl, kn⟩
              rw [HWK.out]
              have HT3 := hid (chk HT.out.1 HT.out.2.1 HT.out.2.2.1 HT.out.2.2.2 kn)
              clear HT kn ca0 ca1 ca2 ca3 ca4 cb0 cb1 cb2 cb3 cb4
              have HT := HT3
              clear HT3
              have ca0 : wn3.cell? ⟨X5, 0, none⟩ = some (.int .i64 g1) := cell_at HT.out.1 0
              have ca1 : wn3.cell? ⟨X5, 1, none⟩ = some (.int .i64 d1) := cell_at HT.out.1 1
              have ca2 : wn3.cell? ⟨X5, 2, none⟩ = some (.int .i64 o1) := cell_at HT.out.1 2
              have ca3 : wn3.cell? ⟨X5, 3, none⟩ = some (.int .i64 a1) := cell_at HT.out.1 3
              have ca4 : wn3.cell? ⟨X5, 4, none⟩ = some (.int .i64 (k : Int)) := cell_at HT.out.1 4
              have cb0 : wn3.cell? ⟨P3, 0, none⟩ = some (.int .i64 g2) := cell_at HT.out.2.1 0
              have cb1 : wn3.cell? ⟨P3, 1, none⟩ = some (.int .i64 d2) := cell_at HT.out.2.1 1
              have cb2 : wn3.cell? ⟨P3, 2, none⟩ = some (.int .i64 o2) := cell_at HT.out.2.1 2
              have cb3 : wn3.cell? ⟨P3, 3, none⟩ = some (.int .i64 a2) := cell_at HT.out.2.1 3
              have cb4 : wn3.cell? ⟨P3, 4, none⟩ = some (.int .i64 (b : Int)) := cell_at HT.out.2.1 4
              go_wp2_with fail
              refine (writes_walk ⟨g2, d2, o2, a2⟩ b _).mono ?_
              rintro e wn4 ⟨rfl, kn⟩
              rw [HWB.out]
              have HT4 := hid (chk HT.out.1 HT.out.2.1 HT.out.2.2.1 HT.out.2.2.2 kn)
              clear HT kn ca0 ca1 ca2 ca3 ca4 cb0 cb1 cb2 cb3 cb4
              have HT := HT4
              clear HT4
              have ca0 : wn4.cell? ⟨X5, 0, none⟩ = some (.int .i64 g1) := cell_at HT.out.1 0
              have ca1 : wn4.cell? ⟨X5, 1, none⟩ = some (.int .i64 d1) := cell_at HT.out.1 1
              have ca2 : wn4.cell? ⟨X5, 2, none⟩ = some (.int .i64 o1) := cell_at HT.out.1 2
              have ca3 : wn4.cell? ⟨X5, 3, none⟩ = some (.int .i64 a1) := cell_at HT.out.1 3
              have ca4 : wn4.cell? ⟨X5, 4, none⟩ = some (.int .i64 (k : Int)) := cell_at HT.out.1 4
              have cb0 : wn4.cell? ⟨P3, 0, none⟩ = some (.int .i64 g2) := cell_at HT.out.2.1 0
              have cb1 : wn4.cell? ⟨P3, 1, none⟩ = some (.int .i64 d2) := cell_at HT.out.2.1 1
              have cb2 : wn4.cell? ⟨P3, 2, none⟩ = some (.int .i64 o2) := cell_at HT.out.2.1 2
              have cb3 : wn4.cell? ⟨P3, 3, none⟩ = some (.int .i64 a2) := cell_at HT.out.2.1 3
              have cb4 : wn4.cell? ⟨P3, 4, none⟩ = some (.int .i64 (b : Int)) := cell_at HT.out.2.1 4
              go_upto_region 6 with fail
              go_wp2_with (refine wpList_store_row rfl 60 (.tmp 3) (.tmp 49) rfl P3 (acC ⟨g1, d1, o1, a1⟩ k).toArray rfl rfl 60 _ HT.out.2.1 (by rw [List.size_toArray]; exact ac_size _ _) rfl (ac_one _ _) ?_)
              go_roundg (gk - 1)
              case measure => have := HI.out; omega
              case rel =>
                have kk : Keep (· ≠ P3) wn4 (wn4.setRow P3 (acC ⟨g1, d1, o1, a1⟩ k).toArray) := (Keep.refl _ _).setRow _ (by simp)
                exact ⟨j + 1, k, by have := HI.out; omega, by go_num, by rw [HSTEP.out, if_pos HB2.out], by rw [HG1.out]; exact heap_setRow HT.out.2.1 _, (kk.block P2 HNE.out.1).trans HT.out.2.2.1, HT.out.2.2.2.trans (kk.mono fun x hx => by have := HNE.out.2; omega)⟩
            · have HWK := hid (show Ev.wr ⟨g1, d1, o1, a1⟩ = true from hwk)
              have HWB := hid (show Ev.wr ⟨g2, d2, o2, a2⟩ = true from hwb)
              have q1 : decide ((b : Int) < (k : Int)) = false := by simp; omega
              have q2 : decide (b < k) = false := by simp; omega
              have HB2 := hid (show better l b k = false from by unfold better; rw [HG1.out, HG2.out, hwk, hwb]; simp [hbk])
              clear hwk hwb
              go_wp2_with fail
              refine (writes_walk ⟨g1, d1, o1, a1⟩ k _).mono ?_
              rintro e wn5 ⟨rfl, kn⟩
              rw [HWK.out]
              have HT5 := hid (chk HT.out.1 HT.out.2.1 HT.out.2.2.1 HT.out.2.2.2 kn)
              clear HT kn ca0 ca1 ca2 ca3 ca4 cb0 cb1 cb2 cb3 cb4
              have HT := HT5
              clear HT5
              have ca0 : wn5.cell? ⟨X5, 0, none⟩ = some (.int .i64 g1) := cell_at HT.out.1 0
              have ca1 : wn5.cell? ⟨X5, 1, none⟩ = some (.int .i64 d1) := cell_at HT.out.1 1
              have ca2 : wn5.cell? ⟨X5, 2, none⟩ = some (.int .i64 o1) := cell_at HT.out.1 2
              have ca3 : wn5.cell? ⟨X5, 3, none⟩ = some (.int .i64 a1) := cell_at HT.out.1 3
              have ca4 : wn5.cell? ⟨X5, 4, none⟩ = some (.int .i64 (k : Int)) := cell_at HT.out.1 4
              have cb0 : wn5.cell? ⟨P3, 0, none⟩ = some (.int .i64 g2) := cell_at HT.out.2.1 0
              have cb1 : wn5.cell? ⟨P3, 1, none⟩ = some (.int .i64 d2) := cell_at HT.out.2.1 1
              have cb2 : wn5.cell? ⟨P3, 2, none⟩ = some (.int .i64 o2) := cell_at HT.out.2.1 2
              have cb3 : wn5.cell? ⟨P3, 3, none⟩ = some (.int .i64 a2) := cell_at HT.out.2.1 3
              have cb4 : wn5.cell? ⟨P3, 4, none⟩ = some (.int .i64 (b : Int)) := cell_at HT.out.2.1 4
              go_wp2_with fail
              refine (writes_walk ⟨g2, d2, o2, a2⟩ b _).mono ?_
              rintro e wn6 ⟨rfl, kn⟩
              rw [HWB.out]
              have HT6 := hid (chk HT.out.1 HT.out.2.1 HT.out.2.2.1 HT.out.2.2.2 kn)
              clear HT kn ca0 ca1 ca2 ca3 ca4 cb0 cb1 cb2 cb3 cb4
              have HT := HT6
              clear HT6
              have ca0 : wn6.cell? ⟨X5, 0, none⟩ = some (.int .i64 g1) := cell_at HT.out.1 0
              have ca1 : wn6.cell? ⟨X5, 1, none⟩ = some (.int .i64 d1) := cell_at HT.out.1 1
              have ca2 : wn6.cell? ⟨X5, 2, none⟩ = some (.int .i64 o1) := cell_at HT.out.1 2
              have ca3 : wn6.cell? ⟨X5, 3, none⟩ = some (.int .i64 a1) := cell_at HT.out.1 3
              have ca4 : wn6.cell? ⟨X5, 4, none⟩ = some (.int .i64 (k : Int)) := cell_at HT.out.1 4
              have cb0 : wn6.cell? ⟨P3, 0, none⟩ = some (.int .i64 g2) := cell_at HT.out.2.1 0
              have cb1 : wn6.cell? ⟨P3, 1, none⟩ = some (.int .i64 d2) := cell_at HT.out.2.1 1
              have cb2 : wn6.cell? ⟨P3, 2, none⟩ = some (.int .i64 o2) := cell_at HT.out.2.1 2
              have cb3 : wn6.cell? ⟨P3, 3, none⟩ = some (.int .i64 a2) := cell_at HT.out.2.1 3
              have cb4 : wn6.cell? ⟨P3, 4, none⟩ = some (.int .i64 (b : Int)) := cell_at HT.out.2.1 4
              go_wp2_with fail
              refine (writes_walk ⟨g1, d1, o1, a1⟩ k _).mono ?_
              rintro e wn7 ⟨rfl, kn⟩
              rw [HWK.out]
              have HT7 := hid (chk HT.out.1 HT.out.2.1 HT.out.2.2.1 HT.out.2.2.2 kn)
              clear HT kn ca0 ca1 ca2 ca3 ca4 cb0 cb1 cb2 cb3 cb4
              have HT := HT7
              clear HT7
              have ca0 : wn7.cell? ⟨X5, 0, none⟩ = some (.int .i64 g1) := cell_at HT.out.1 0
              have ca1 : wn7.cell? ⟨X5, 1, none⟩ = some (.int .i64 d1) := cell_at HT.out.1 1
              have ca2 : wn7.cell? ⟨X5, 2, none⟩ = some (.int .i64 o1) := cell_at HT.out.1 2
              have ca3 : wn7.cell? ⟨X5, 3, none⟩ = some (.int .i64 a1) := cell_at HT.out.1 3
              have ca4 : wn7.cell? ⟨X5, 4, none⟩ = some (.int .i64 (k : Int)) := cell_at HT.out.1 4
              have cb0 : wn7.cell? ⟨P3, 0, none⟩ = some (.int .i64 g2) := cell_at HT.out.2.1 0
              have cb1 : wn7.cell? ⟨P3, 1, none⟩ = some (.int .i64 d2) := cell_at HT.out.2.1 1
              have cb2 : wn7.cell? ⟨P3, 2, none⟩ = some (.int .i64 o2) := cell_at HT.out.2.1 2
              have cb3 : wn7.cell? ⟨P3, 3, none⟩ = some (.int .i64 a2) := cell_at HT.out.2.1 3
              have cb4 : wn7.cell? ⟨P3, 4, none⟩ = some (.int .i64 (b : Int)) := cell_at HT.out.2.1 4
              go_wp2_with fail
              go_roundg (gk - 1)
              case measure => have := HI.out; omega
              case rel => exact ⟨j + 1, b, by have := HI.out; omega, by go_num, by rw [HSTEP.out, if_neg (by rw [HB2.out]; simp)], by rw [HG2.out]; exact HT.out.2.1, HT.out.2.2.1, HT.out.2.2.2⟩
      · obtain rfl : j = m := by omega
        have hbC : b = C := by rw [← HC.out, ← hb, List.take_of_length_le (by have := HM.out; omega)]
        have HF0 := HEND.out _ _ hbC HH.out.1 HH.out.2.1 HH.out.2.2
        rw [hbC] at HH
        have HF := hid (And.intro (range_whole HH.out.1) (And.intro HH.out.2.1 HF0))
        clear HF0 HH hb hlt hjm
        go_wp2_with (first | (refine wpList_load_mid rfl 60 (.tmp 3) rfl P3 0 rfl (acC (evAt l C) C) _ HF.out.1 Tryd.underlying60 rfl (ac_size _ _) ?_) | (refine wpList_store_row rfl 60 (.tmp 2) (.tmp 51) rfl P2 (acC (evAt l C) C).toArray rfl rfl 60 _ HF.out.2.1 (by rw [List.size_toArray]; exact ac_size _ _) rfl (ac_one _ _) ?_))
        refine bodyPost_ret (v := .agg (acC (evAt l C) C).toArray) (results_cell_row rfl _ _ P2 60 _ (0, 0) _ rfl HF.out.2.2.1 Tryd.underlying60 rfl (by rw [List.size_toArray]; exact ac_size _ _)) rfl ?_
        exact ⟨rfl, HF.out.2.2.2⟩
end Go.Proofs.YtalihehmbiohlaaDoor
