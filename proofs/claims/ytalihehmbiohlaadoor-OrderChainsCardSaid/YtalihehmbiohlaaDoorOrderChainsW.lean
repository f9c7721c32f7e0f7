/-
  Step by step: the statement OrderChains.
-/
import Derived.Test.YtalihehmbiohlaaDoorOrdZ
import Derived.Test.YtalihehmbiohlaaDoorOrdT
import Derived.Test.YtalihehmbiohlaaDoorOrdF
import Derived.Test.YtalihehmbiohlaaDoorInD
namespace Go.Proofs.YtalihehmbiohlaaDoor
open Go.RowKit Go.Maps Go.Proofs.Mem Go.Proofs.Txt Go.Proofs.Ord Go.Proofs.Mp

/-- a number taken modulo a length. -/
theorem umod (x : Int) (n : Nat) (h0 : 0 < n) (hn : n ≤ 1000) : ∃ r : Nat, r < n ∧ (IntKind.u64.wrap x).tmod (n : Int) = (r : Int) := by
  have h1 : 0 ≤ IntKind.u64.wrap x := by rw [IntKind.wrap_u64]; omega
  rw [Int.tmod_eq_emod_of_nonneg h1]
  have h2 := Int.emod_nonneg (IntKind.u64.wrap x) (show (n : Int) ≠ 0 by omega)
  have h3 := Int.emod_lt_of_pos (IntKind.u64.wrap x) (show 0 < (n : Int) by omega)
  exact ⟨((IntKind.u64.wrap x) % (n : Int)).toNat, by omega, by omega⟩

set_option maxRecDepth 100000 in
set_option maxHeartbeats 8000000 in
theorem orderChains_walk (l : List Ev) (zs : List Int) (a b : Int) (tv rv : Value) (third : Int) (ea : Addr) (w : World) (hin : ∀ e ∈ l, Ev.inRange e) (hrw : ∀ r ∈ zs, r ≤ 9223372036854775807) (he1 : ErrAt w 0 ea) (hv : EvsAt w (fun _ => True) tv l) (hr : Cells w (fun _ => True) rv (zs.map (Value.int .i64))) :
    Calls Tryd.prog 6 #[.agg #[tv, rv, .int .i64 a, .int .i64 b], .int .i64 third] w fun e w' => e = .returned (.bool true) ∧ Keep (· < w.heap.size) w w' := by
  have HE := hid he1
  have HV := hid (hv.lt.mono (q := fun b => b < w.heap.size) (fun _ h => h.1))
  have HR := hid (hr.lt.mono (q := fun b => b < w.heap.size) (fun _ h => h.1))
  have HIN := hid hin
  have HRW := hid hrw
  obtain ⟨va, vc, rfl, hc1, hc2⟩ := hv.form
  obtain ⟨ra, rc, rfl⟩ : ∃ a c, rv = .slice a zs.length c := by
    obtain ⟨a, n, c, e, h1, _⟩ := hr
    rw [List.length_map] at h1
    exact ⟨a, c, by rw [e, h1]⟩
  clear hin he1 hv hr hrw
  go_enter Tryd.func6, Tryd.ntmps6
  go_upto_region 1 with fail
  refine wp_world (fun w0 => Keep (· < w.heap.size) w w0 ∧ w0.heap[w.heap.size]? = some (.cells ([.slice va l.length vc, .slice ra zs.length rc, .int .i64 a, .int .i64 b] : List Value).toArray 41 (0, 0)) ∧ w.heap.size < w0.heap.size) ⟨(Keep.refl _ _).alloc _ (fun _ h => h), heap_alloc_new w _, by simp⟩ ?_
  rintro w0 ⟨k0, hX, zX⟩
  obtain ⟨X, hX0⟩ : ∃ X, w.heap.size = X := ⟨_, rfl⟩
  have HX := hid (show w0.heap[X]? = some (.cells ([.slice va l.length vc, .slice ra zs.length rc, .int .i64 a, .int .i64 b] : List Value).toArray 41 (0, 0)) by rw [← hX0]; exact hX)
  have hXl : X < w0.heap.size := by omega
  have K0 := hid k0
  rw [hX0]
  clear k0 hX zX hX0
  go_wp2_with fail
  refine (alive18_walk w0 _ (HE.out.keep K0.out HE.out.lt HE.out.blt).cell (HE.out.keep K0.out HE.out.lt HE.out.blt).lt).mono ?_
  rintro e w1 ⟨rfl, k1⟩
  have HX1 := hid ((k1.block X hXl).trans HX.out)
  have K1 := hid (K0.out.trans (k1.mono fun b hb => Nat.lt_of_lt_of_le hb K0.out.size))
  have hXl1 : X < w1.heap.size := Nat.lt_of_lt_of_le hXl k1.size
  clear k1 hXl
  have c0 : w1.cell? ⟨X, 0, none⟩ = some (.slice va l.length vc) := cell_at HX1.out 0
  have c1 : w1.cell? ⟨X, 1, none⟩ = some (.slice ra zs.length rc) := cell_at HX1.out 1
  have hcase : l.length < 1 ∨ (1 ≤ l.length ∧ 100 < l.length) ∨ (1 ≤ l.length ∧ l.length ≤ 100 ∧ 100 < zs.length) ∨ (1 ≤ l.length ∧ l.length ≤ 100 ∧ zs.length ≤ 100) := by omega
  rcases hcase with h1 | ⟨h1, h2⟩ | ⟨h1, h2, h3⟩ | ⟨h1, h2, h3⟩
  · have d1 : decide ((l.length : Int) < 1) = true := by simp; omega
    have d2 : decide (l.length < 1) = true := decide_eq_true (by omega)
    go_wp2_with fail
    go_ret
    exact ⟨rfl, K1.out⟩
  · have d1 : decide ((l.length : Int) < 1) = false := by simp; omega
    have d2 : decide ((100 : Int) < (l.length : Int)) = true := by simp; omega
    go_wp2_with fail
    go_ret
    exact ⟨rfl, K1.out⟩
  · have d1 : decide ((l.length : Int) < 1) = false := by simp; omega
    have d2 : decide ((100 : Int) < (l.length : Int)) = false := by simp; omega
    have d3 : decide ((100 : Int) < (zs.length : Int)) = true := by simp; omega
    go_wp2_with fail
    go_ret
    exact ⟨rfl, K1.out⟩
  · have d1 : decide ((l.length : Int) < 1) = false := by simp; omega
    have d2 : decide ((100 : Int) < (l.length : Int)) = false := by simp; omega
    have d3 : decide ((100 : Int) < (zs.length : Int)) = false := by simp; omega
    have HF := hid (oform_walk l (.slice va l.length vc) w1 _ (HV.out.keep K1.out (fun _ h => h)))
    go_wp2_with fail
    refine HF.out.mono ?_
    rintro e w2 ⟨rfl, k2⟩
    have HX2 := hid ((k2.block X hXl1).trans HX1.out)
    have K2 := hid (K1.out.trans (k2.mono fun b hb => Nat.lt_of_lt_of_le hb K1.out.size))
    have hXl2 : X < w2.heap.size := Nat.lt_of_lt_of_le hXl1 k2.size
    clear k2 c0 c1
    cases hok : l.all Ev.ok
    · go_wp2_with fail
      go_ret
      exact ⟨rfl, K2.out⟩
    · have HO := hid hok
      clear hok
      have c1 : w2.cell? ⟨X, 1, none⟩ = some (.slice ra zs.length rc) := cell_at HX2.out 1
      have c2 : w2.cell? ⟨X, 2, none⟩ = some (.int .i64 a) := cell_at HX2.out 2
      have c3 : w2.cell? ⟨X, 3, none⟩ = some (.int .i64 b) := cell_at HX2.out 3
      obtain ⟨A, hA, eA⟩ := umod a l.length (by omega) (by omega)
      obtain ⟨B, hB, eB⟩ := umod b l.length (by omega) (by omega)
      obtain ⟨C, hC, eC⟩ := umod third l.length (by omega) (by omega)
      have HB := hid (show ∀ (wx : World), Keep (· < w2.heap.size) w2 wx → ∀ m n : Nat, m < l.length → n < l.length → Calls Tryd.prog 14 #[.slice va l.length vc, .slice ra zs.length rc, .int .i64 (m : Int), .int .i64 (n : Int)] wx fun e w' => e = .returned (.tuple #[.bool (decide (m < n) && aheadB zs l m n), .nilIface]) ∧ Keep (· < wx.heap.size) wx w' from fun wx kx m n hm hn => by
        have hk := K2.out.trans (kx.mono fun b hb => Nat.lt_of_lt_of_le hb K2.out.size)
        have he := HE.out.keep hk HE.out.lt HE.out.blt
        have := before_walk zs l _ _ _ (m : Int) (n : Int) wx _ _ (HV.out.keep hk (fun _ h => h)) (HR.out.keep hk (fun _ h => h)) he.cell he.lt HO.out (fun e he => (HIN.out e he).2.2.1) (by omega) HRW.out ⟨_, _, rfl⟩
        rw [if_pos (by omega), show decide ((m : Int) < (n : Int)) = decide (m < n) by simp] at this
        exact this)
      obtain ⟨x1, hx1⟩ : ∃ x, (decide (A < B) && aheadB zs l A B) = x := ⟨_, rfl⟩
      obtain ⟨x2, hx2⟩ : ∃ x, (decide (B < A) && aheadB zs l B A) = x := ⟨_, rfl⟩
      obtain ⟨x3, hx3⟩ : ∃ x, (decide (B < C) && aheadB zs l B C) = x := ⟨_, rfl⟩
      obtain ⟨x4, hx4⟩ : ∃ x, (decide (A < C) && aheadB zs l A C) = x := ⟨_, rfl⟩
      have HXS := hid (And.intro hx1 (And.intro hx2 (And.intro hx3 hx4)))
      have hcases : x1 = false ∨ (x1 = true ∧ x2 = false ∧ A < B ∧ x3 = false) ∨ (x1 = true ∧ x2 = false ∧ A < B ∧ x3 = true ∧ x4 = true) := by
        cases x1
        · exact .inl rfl
        · right
          simp only [Bool.and_eq_true, decide_eq_true_eq] at hx1
          have h2 : x2 = false := by rw [← hx2, decide_eq_false (by omega)]; rfl
          cases x3
          · exact .inl ⟨rfl, h2, hx1.1, rfl⟩
          · simp only [Bool.and_eq_true, decide_eq_true_eq] at hx3
            refine .inr ⟨rfl, h2, hx1.1, rfl, ?_⟩
            rw [← hx4, decide_eq_true (show A < C by omega), ahead_trans zs l A B C hx1.1 hx3.1 hC hx1.2 hx3.2]
            rfl
      have HCS := hid hcases
      clear hx1 hx2 hx3 hx4 hcases
      go_wp2_with fail
      go_quiet (fail)
      go_wp2_with fail
      clear eA eB eC
      have kq := (Keep.refl (· < w2.heap.size) w2).drewN nq
      refine (HB.out _ (kq) A B hA hB).mono ?_
      rintro e wb1 ⟨rfl, kb1⟩
      have KB1 := hid ((kq).trans (kb1.mono fun b hb => Nat.lt_of_lt_of_le hb (kq).size))
      clear kb1
      rw [HXS.out.1]
      have e1 : wb1.cell? ⟨X, 1, none⟩ = some (.slice ra zs.length rc) := (KB1.out.cell (x := ⟨X, 1, none⟩) hXl2).trans c1
      go_wp2_with fail
      refine (HB.out _ (KB1.out) B A hB hA).mono ?_
      rintro e wb2 ⟨rfl, kb2⟩
      have KB2 := hid ((KB1.out).trans (kb2.mono fun b hb => Nat.lt_of_lt_of_le hb (KB1.out).size))
      clear kb2
      rw [HXS.out.2.1]
      have e2 : wb2.cell? ⟨X, 1, none⟩ = some (.slice ra zs.length rc) := (KB2.out.cell (x := ⟨X, 1, none⟩) hXl2).trans c1
      go_wp2_with fail
      refine (HB.out _ (KB2.out) B C hB hC).mono ?_
      rintro e wb3 ⟨rfl, kb3⟩
      have KB3 := hid ((KB2.out).trans (kb3.mono fun b hb => Nat.lt_of_lt_of_le hb (KB2.out).size))
      clear kb3
      rw [HXS.out.2.2.1]
      have e3 : wb3.cell? ⟨X, 1, none⟩ = some (.slice ra zs.length rc) := (KB3.out.cell (x := ⟨X, 1, none⟩) hXl2).trans c1
      go_wp2_with fail
      refine (HB.out _ (KB3.out) A C hA hC).mono ?_
      rintro e wb4 ⟨rfl, kb4⟩
      have KB4 := hid ((KB3.out).trans (kb4.mono fun b hb => Nat.lt_of_lt_of_le hb (KB3.out).size))
      clear kb4
      rw [HXS.out.2.2.2]
      have hfin := hid (K2.out.trans (KB4.out.mono fun b hb => Nat.lt_of_lt_of_le hb K2.out.size))
      clear hA hB hC
      rcases HCS.out with rfl | ⟨rfl, rfl, hab, rfl⟩ | ⟨rfl, rfl, hab, rfl, rfl⟩
      all_goals
        go_wp2_with fail
        go_ret
        exact ⟨rfl, hfin.out⟩
end Go.Proofs.YtalihehmbiohlaaDoor
