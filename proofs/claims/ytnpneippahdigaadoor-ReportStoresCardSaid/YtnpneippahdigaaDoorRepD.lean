/-
  Step by step: 'get' of package report; 'Get' of bytes that are none's.
-/
import Derived.Test.YtnpneippahdigaaDoorRepC
import Derived.Test.YtnpneippahdigaaDoorWireP
namespace Go.Proofs.YtnpneippahdigaaDoor
open Go.RowKit Go.Proofs.Mem Go.Proofs.Txt


set_option maxRecDepth 100000 in
set_option maxHeartbeats 1000000 in
theorem rget_walk (v : Value) (xs : List Nat) (w : World) (p : Nat → Prop) (hx : ∀ x ∈ xs, x < 256) (hv : Cells w p v (ints .u8 xs)) :
    Calls Tryd.prog 62 #[v] w fun e w' => e = .returned (.int .i64 (Wr.i64 (Drw.num8 xs))) ∧ w = w' := by
  obtain ⟨a1, n1, c1, rfl, e1, m1, q1, hcc⟩ := hv
  rw [ints_length] at e1
  subst e1
  have q1' : c1 ≤ 9223372036854775807 := by simpa [maxLen] using q1
  have HCC := hid hcc
  have HX := hid hx
  clear q1 hcc hx
  go_enter Tryd.func62, Tryd.ntmps62
  go_wp2_with fail
  go_loopg [3, 8] xs.length (fun k s3 s8 wr => ∃ i u : Nat, i + k = xs.length ∧ s8 = .int .i64 (i : Int) ∧ s3 = .int .u64 (u : Int) ∧ Hid (u = Drw.num8 (xs.take i)) ∧ u < 18446744073709551616 ∧ wr = w)
  case atStart => exact ⟨0, 0, by omega, rfl, rfl, hid (by rw [List.take_zero]; rfl), by decide, rfl⟩
  case round =>
    obtain ⟨i, u, hi, rfl, rfl, hu, hul, rfl⟩ := hrel
    by_cases hlt : i < xs.length
    · obtain ⟨x, hx⟩ : ∃ x, xs.getD i 0 = x := ⟨_, rfl⟩
      obtain ⟨blk, off, rfl, hp, hc⟩ := HCC.out (by omega)
      have cx : wr.cell? ⟨blk, off + i, none⟩ = some (.int .u8 (x : Int)) := by
        rw [hc i hlt, ints_get _ _ _ hlt, hx]
      have hxl : x < 256 := by rw [← hx, List.getD_eq_getElem?_getD, List.getElem?_eq_getElem hlt]; exact HX.out _ (List.getElem_mem hlt)
      have l0 : (i : Int) < (xs.length : Int) := by omega
      have sh := shl8' u
      obtain ⟨z, hz⟩ : ∃ z, (u * 256 % 18446744073709551616) ||| x = z := ⟨_, rfl⟩
      have hzl : z < 18446744073709551616 := by rw [← hz]; exact Drw.or_lt _ _ (Nat.mod_lt _ (by decide)) (by omega)
      have HZ := hid (And.intro hx hz)
      clear hx hc hz
      go_wp2_with fail
      go_roundg (gk - 1)
      case measure => omega
      case rel =>
        have eo : bits .or .u64 ((u : Int) * 256 % 18446744073709551616) (x : Int) = (z : Int) := by
          have := bits_or_u64_nat (u * 256 % 18446744073709551616) x (Nat.mod_lt _ (by decide)) (by omega)
          rw [HZ.out.2] at this
          simpa using this
        refine ⟨i + 1, z, by omega, by go_num, by rw [eo], hid ?_, hzl, rfl⟩
        rw [← take_snoc' xs i hlt, Drw.num8_snoc, ← hu.out, HZ.out.1, HZ.out.2]
    · obtain rfl : i = xs.length := by omega
      have ew := i64_wrap u hul
      have he : u = Drw.num8 xs := by have := hu.out; rwa [List.take_of_length_le (Nat.le_refl _)] at this
      have HE := hid he
      clear he
      go_wp2_with fail
      go_ret
      refine ⟨?_, rfl⟩
      rw [HE.out]
      rfl

theorem num8_two (a b : Nat) (ha : a < 256) (hb : b < 256) : Drw.num8 [a, b] = 256 * a + b := by
  unfold Drw.num8
  simp only [List.foldl_cons, List.foldl_nil]
  rw [Wr.or_add _ _ hb, Wr.or_add _ _ ha]
  omega
/-- the number of races that bytes name. -/
def cntOf (b : List Nat) : Nat := Drw.num8 ((b.drop 19).take 2)
theorem cntOf_le (b : List Nat) (hx : ∀ x ∈ b, x < 256) (hl : 21 ≤ b.length) : cntOf b = 256 * b.getD 19 0 + b.getD 20 0 ∧ cntOf b ≤ 65535 := by
  have h19 : b.getD 19 0 < 256 := by rw [List.getD_eq_getElem?_getD, List.getElem?_eq_getElem (by omega)]; exact hx _ (List.getElem_mem _)
  have h20 : b.getD 20 0 < 256 := by rw [List.getD_eq_getElem?_getD, List.getElem?_eq_getElem (by omega)]; exact hx _ (List.getElem_mem _)
  have e : (b.drop 19).take 2 = [b.getD 19 0, b.getD 20 0] := by
    refine List.ext_getElem (by simp; omega) fun i h1 h2 => ?_
    simp only [List.length_cons, List.length_nil] at h2
    have : i = 0 ∨ i = 1 := by omega
    rcases this with rfl | rfl
    · simp [List.getD_eq_getElem?_getD, List.getElem?_eq_getElem (show 19 < b.length by omega)]
    · simp [List.getD_eq_getElem?_getD, List.getElem?_eq_getElem (show 20 < b.length by omega)]
  have : cntOf b = 256 * b.getD 19 0 + b.getD 20 0 := by unfold cntOf; rw [e, num8_two _ _ h19 h20]
  exact ⟨this, by omega⟩
theorem results_two {fn : Func} {p q : Tmp} {ty tz : TypeId} {P : Program} (h : fn.results = #[.cell p ty, .cell q tz]) (tmps : Array Value) (w : World) (a1 a2 : Addr) (v1 v2 : Value) (hp : tmps.getD p undef = .pointer (some a1)) (hq : tmps.getD q undef = .pointer (some a2))
    (h1 : (loadVar ty a1).run P w = .ok v1 w) (h2 : (loadVar tz a2).run P w = .ok v2 w) : (results fn tmps).run P w = .ok (.tuple #[v1, v2]) w := by
  have hp' : tmps[p]?.getD undef = .pointer (some a1) := by simpa using hp
  have hq' : tmps[q]?.getD undef = .pointer (some a2) := by simpa using hq
  simp [results, h, hp', hq', asAddr, h1, h2]
theorem two_allocs (w : World) (A B : Obj) : Keep (· < w.heap.size) w ((w.alloc A).alloc B) := ((Keep.refl _ _).alloc A (fun _ h => h)).trans (((Keep.refl (· < (w.alloc A).heap.size) _).alloc B (fun _ h => h)).mono (fun b (h : b < w.heap.size) => by simp; omega))
theorem two_heap (w : World) (A B : Obj) : ((w.alloc A).alloc B).heap[w.heap.size]? = some A :=
  ((Keep.refl (· < (w.alloc A).heap.size) _).alloc B (fun _ h => h)).block w.heap.size (by simp) |>.trans (heap_alloc_new w A)
theorem load_err (w : World) (b : Nat) (v : Value) (h : w.cell? ⟨b, 0, none⟩ = some v) : (loadVar 30 ⟨b, 0, none⟩).run Tryd.prog w = .ok v w := by
  have u := Tryd.underlying30
  unfold loadVar
  go_simp
/-- no report. -/
def noRep : Rp.Rep := ⟨0, 0, 0, 0, 0, 0, []⟩

set_option maxRecDepth 100000 in
set_option maxHeartbeats 1000000 in
theorem rpget_short (v : Value) (b : List Nat) (q : Addr) (w : World) (p : Nat → Prop) (hx : ∀ x ∈ b, x < 256) (hv : Cells w p v (ints .u8 b)) (hf : b.length < 21 ∨ b.length ≠ 21 + 11 * cntOf b) (he : w.cell? ⟨2, 0, none⟩ = some (.iface 217 (.pointer (some q)))) (hl : 2 < w.heap.size) :
    Calls Tryd.prog 20 #[v] w fun e w' => e = .returned (.tuple #[.agg (rpC noRep (.slice none 0 0)).toArray, .iface 217 (.pointer (some q))]) ∧ Keep (· < w.heap.size) w w' := by
  have HE := hid he
  have HX := hid hx
  have hle := hv.len_le
  rw [ints_length] at hle
  have HV := hid (hv.lt.mono (q := fun b => b < w.heap.size) (fun _ h => h.1))
  have hi := rp_size noRep (.slice none 0 0)
  have h1 := rp_one noRep none 0 0
  have hcase : b.length < 21 ∨ (21 ≤ b.length ∧ b.length ≠ 21 + 11 * cntOf b) := by omega
  clear he hx hv hf
  rcases hcase with hc | ⟨hc1, hc2⟩
  case' inl =>
    obtain ⟨a, n, c, rfl⟩ := cells_form HV.out
    have hn : n = b.length := by
      obtain ⟨_, _, _, e, h1, _⟩ := HV.out
      injection e with _ e2 _
      rw [e2, h1, ints_length]
    have t1 : decide ((n : Int) < 21) = true := by simp; omega
    clear hn hc
    go_enter Tryd.func20, Tryd.ntmps20
    go_upto_region 2 with fail
  case' inr =>
    obtain ⟨blk, off, c, rfl, hnc, hcm, hblk, hcell⟩ := HV.out.open_ (by omega)
    have hcn := cntOf_le b HX.out hc1
    obtain ⟨n, hn⟩ : ∃ n, b.length = n := ⟨_, rfl⟩
    have HC := hid (And.intro hcell hn)
    obtain ⟨m, hm⟩ : ∃ m, cntOf b = m := ⟨_, rfl⟩
    have HM := hid hm
    rw [hn] at hc1 hc2 hnc HV ⊢
    rw [hm] at hc2 hcn
    have hm0 : (m : Int) ≤ 65535 := by omega
    have t1 : decide ((n : Int) < 21) = false := by simp; omega
    have t2 : ((n : Int) != 21 + 11 * (m : Int)) = true := by simp; omega
    have c1 : (21 : Int) ≤ (c : Int) := by omega
    have hm1 : (11 : Int) * (m : Int) ≤ 9223372036854775807 := by omega
    have hm2 : (-9223372036854775808 : Int) ≤ 11 * (m : Int) := by omega
    clear hn hcell hm hc2 hcn
    go_enter Tryd.func20, Tryd.ntmps20
    have ofc : ∀ w0 : World, Keep (· < w.heap.size) w w0 → Calls Tryd.prog 62 #[.slice (some ⟨blk, off + 19, none⟩) 2 (c - 19)] w0 fun e w' => e = .returned (.int .i64 (m : Int)) ∧ w0 = w' := fun w0 k0 => by
      have h8 := cells_sub (w := w0) (p := fun _ => True) (blk := blk) (off := off) (cs := ints .u8 b) trivial (fun i hi => (k0.cell (x := ⟨blk, off + i, none⟩) hblk).trans (HC.out.1 i hi)) 19 2 (c - 19) (by rw [ints_length, HC.out.2]; omega) (by omega) (by omega)
      rw [ints_drop, ints_take] at h8
      have := rget_walk _ _ w0 _ (fun x hx => HX.out x (List.mem_of_mem_drop (List.mem_of_mem_take hx))) h8
      rw [show Drw.num8 ((b.drop 19).take 2) = m from HM.out, Wr.i64_small _ (by omega)] at this
      exact this
    have OF := hid ofc
    clear ofc
    go_wp2_with fail
    refine (OF.out _ (two_allocs w _ _)).mono ?_
    rintro e w1 ⟨rfl, rfl⟩
    go_upto_region 2 with fail
  all_goals
    refine wp_world (fun w1 => Keep (· < w.heap.size) w w1 ∧ w1.heap[w.heap.size]? = some (.cells (rpC noRep (.slice none 0 0)).toArray 26 (0, 0)) ∧ w1.heap[w.heap.size + 1]? = some (.cells #[.nilIface] 30 (0, 0)) ∧ w.heap.size + 1 < w1.heap.size) ⟨two_allocs w _ _, two_heap w _ _, heap_alloc2_new w _ _, by simp⟩ ?_
    rintro w1 ⟨k1, R1, E1, z1⟩
    have H1 := hid (And.intro k1 (And.intro R1 E1))
    have ce := (k1.cell (x := ⟨2, 0, none⟩) hl).trans HE.out
    clear k1 R1 E1
    refine wp_region_plan [true, true, false, false] (.free 0 (.free 1 (.one 2 (.last 3)))) (fun wx => wx.cell? ⟨2, 0, none⟩ = some (.iface 217 (.pointer (some q)))) (by kernel_rfl) (by kernel_rfl) ce ?_
    clear ce
    refine plan_free rfl rfl (fun K hK => ?_); go_simp; refine hK _ ?_; clear hK K
    refine plan_held (.iface 217 (.pointer (some q))) rfl rfl (fun w0 h0 => by go_simp) (fun K hK => ?_); refine hK _ ?_; clear hK K
    refine plan_one rfl rfl (fun K hK => ?_)
    refine wp_store_row 26 (.tmp 2) (.tmp 20) rfl w.heap.size (rpC noRep (.slice none 0 0)).toArray rfl rfl 26 _ (show w1.drew.heap[w.heap.size]? = _ from H1.out.2.1) hi rfl h1 ?_
    have k2 := (H1.out.1.drewN 1).setRow (b := w.heap.size) (rpC noRep (.slice none 0 0)).toArray (Nat.lt_irrefl _)
    have R2 := heap_setRow (show w1.drew.heap[w.heap.size]? = _ from H1.out.2.1) (rpC noRep (.slice none 0 0)).toArray
    refine hK _ _ ⟨(k2.cell (x := ⟨_, 0, none⟩) hl).trans HE.out, ?_⟩
    clear hK K
    have E2 : (w1.drew.setRow w.heap.size (rpC noRep (.slice none 0 0)).toArray).heap[w.heap.size + 1]? = some (.cells #[.nilIface] 30 (0, 0)) := by
      have ks : Keep (fun b => b ≠ w.heap.size) w1.drew (w1.drew.setRow w.heap.size (rpC noRep (.slice none 0 0)).toArray) := (Keep.refl _ _).setRow _ (by simp)
      exact (ks.block _ (by simp)).trans H1.out.2.2
    refine plan_world (fun w2 => Keep (· < w.heap.size) w w2 ∧ w2.heap[w.heap.size]? = some (.cells (rpC noRep (.slice none 0 0)).toArray 26 (0, 0)) ∧ w2.heap[w.heap.size + 1]? = some (.cells #[.nilIface] 30 (0, 0))) ⟨k2, R2, E2⟩ ?_
    rintro w2 ⟨k3, R3, E3⟩
    have cE : w2.cell? ⟨w.heap.size + 1, 0, none⟩ = some .nilIface := cell_at E3 0
    have fE := frozen_at E3 0
    have H2 := hid (And.intro k3 (And.intro R3 E3))
    clear k2 R2 E2 k3 R3 E3 H1
    refine plan_last rfl rfl (fun K hK => ?_); go_simp
    refine hK _ _ ?_
    clear hK K
    have k4 := H2.out.1.setCell (x := ⟨w.heap.size + 1, 0, none⟩) (.iface 217 (.pointer (some q))) (by simp)
    have kr : Keep (fun b => b ≠ w.heap.size + 1) w2 (w2.setCell ⟨w.heap.size + 1, 0, none⟩ (.iface 217 (.pointer (some q)))) := (Keep.refl _ _).setCell _ (by simp)
    have R4 := (kr.block w.heap.size (by simp)).trans H2.out.2.1
    have E4 : (w2.setCell ⟨w.heap.size + 1, 0, none⟩ (.iface 217 (.pointer (some q)))).cell? ⟨w.heap.size + 1, 0, none⟩ = some (.iface 217 (.pointer (some q))) := cell_at (set_at (cs := [.nilIface]) H2.out.2.2 0 _) 0
    have H4 := hid (And.intro k4 (And.intro R4 E4))
    clear k4 kr R4 E4 cE fE
    go_wp2_with fail
    refine bodyPost_ret (v := .tuple #[.agg (rpC noRep (.slice none 0 0)).toArray, (.iface 217 (.pointer (some q)))]) (results_two rfl _ _ ⟨w.heap.size, 0, none⟩ ⟨w.heap.size + 1, 0, none⟩ _ _ rfl rfl (run_loadVar_row _ w.heap.size _ 26 _ _ _ H4.out.2.1 Tryd.underlying26 rfl hi) (load_err _ _ _ H4.out.2.2)) rfl ?_
    exact ⟨rfl, H4.out.1⟩
end Go.Proofs.YtnpneippahdigaaDoor
