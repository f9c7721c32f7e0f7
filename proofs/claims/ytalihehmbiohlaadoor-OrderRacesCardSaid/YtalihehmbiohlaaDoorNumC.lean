/-
  Step by step: the number of an error ('stockadenum.Num').
-/
import Derived.Test.YtalihehmbiohlaaDoorIs
import Derived.Test.YtalihehmbiohlaaDoorInC
namespace Go.Proofs.YtalihehmbiohlaaDoor
open Go.RowKit Go.Proofs.Mem

theorem num_nil (w : World) : Calls Tryd.prog 16 #[.nilIface] w fun e w' => e = .returned (.int .i64 0) ∧ w = w' := by
  go_enter Tryd.func16, Tryd.ntmps16
  go_wp2_with fail
  go_ret
  exact ⟨rfl, rfl⟩

theorem errs_get {w : World} : ∀ {gs : List Nat} {xs : List Addr}, ErrsAt w gs xs → ∀ (i : Nat) (a : Addr), xs[i]? = some a → ∃ g, gs[i]? = some g ∧ ErrAt w g a
  | [], [], _ => fun i a h => by simp at h
  | g :: gs, x :: xs, h => fun i a ha => by
    cases i with
    | zero => simp at ha; subst ha; exact ⟨g, rfl, h.1⟩
    | succ i => simp at ha; exact errs_get h.2 i a ha
  | [], _ :: _, h => h.elim
  | _ :: _, [], h => h.elim

set_option maxRecDepth 100000 in
set_option maxHeartbeats 2000000 in
theorem num_at (xs : List Addr) (n : Nat) (a : Addr) (w : World) (he : ErrsAt w errGs xs) (hd : xs.Nodup) (ha : xs[n]? = some a) :
    Calls Tryd.prog 16 #[.iface 133 (.pointer (some a))] w fun e w' => e = .returned (.int .i64 ((n + 1 : Nat) : Int)) ∧ Keep (· < w.heap.size) w w' := by
  have HE := hid he
  have HD := hid hd
  have HA := hid ha
  have hl : xs.length = 17 := he.length
  have hn : n < 17 := by rw [← hl]; exact (List.getElem?_eq_some_iff.1 ha).1
  have hcell : ∀ (i g : Nat) (x : Addr), errGs[i]? = some g → xs[i]? = some x → w.cell? ⟨g, 0, none⟩ = some (.iface 133 (.pointer (some x))) := by
    intro i g x hg hx
    obtain ⟨g', hg', h'⟩ := errs_get he i x hx
    obtain rfl := Option.some.inj (hg.symm.trans hg')
    exact h'.cell
  obtain ⟨x0, x1, x2, x3, x4, x5, x6, x7, x8, x9, x10, x11, x12, x13, x14, x15, x16, hx⟩ : ∃ x0 x1 x2 x3 x4 x5 x6 x7 x8 x9 x10 x11 x12 x13 x14 x15 x16, xs = [x0, x1, x2, x3, x4, x5, x6, x7, x8, x9, x10, x11, x12, x13, x14, x15, x16] := by
    match xs, hl with
    | [x0, x1, x2, x3, x4, x5, x6, x7, x8, x9, x10, x11, x12, x13, x14, x15, x16], _ => exact ⟨x0, x1, x2, x3, x4, x5, x6, x7, x8, x9, x10, x11, x12, x13, x14, x15, x16, rfl⟩
  have c0 := hcell 0 _ x0 rfl (by rw [hx]; rfl)
  have c1 := hcell 1 _ x1 rfl (by rw [hx]; rfl)
  have c2 := hcell 2 _ x2 rfl (by rw [hx]; rfl)
  have c3 := hcell 3 _ x3 rfl (by rw [hx]; rfl)
  have c4 := hcell 4 _ x4 rfl (by rw [hx]; rfl)
  have c5 := hcell 5 _ x5 rfl (by rw [hx]; rfl)
  have c6 := hcell 6 _ x6 rfl (by rw [hx]; rfl)
  have c7 := hcell 7 _ x7 rfl (by rw [hx]; rfl)
  have c8 := hcell 8 _ x8 rfl (by rw [hx]; rfl)
  have c9 := hcell 9 _ x9 rfl (by rw [hx]; rfl)
  have c10 := hcell 10 _ x10 rfl (by rw [hx]; rfl)
  have c11 := hcell 11 _ x11 rfl (by rw [hx]; rfl)
  have c12 := hcell 12 _ x12 rfl (by rw [hx]; rfl)
  have c13 := hcell 13 _ x13 rfl (by rw [hx]; rfl)
  have c14 := hcell 14 _ x14 rfl (by rw [hx]; rfl)
  have c15 := hcell 15 _ x15 rfl (by rw [hx]; rfl)
  have c16 := hcell 16 _ x16 rfl (by rw [hx]; rfl)
  have HX := hid hx
  clear he hd ha hx hcell
  go_enter Tryd.func16, Tryd.ntmps16
  go_wp2_with fail
  refine wp_world (fun w1 => Keep (· < w.heap.size) w w1 ∧ w1.heap[w.heap.size]? = some (.cells (xs.map fun x => Value.iface 133 (.pointer (some x))).toArray 28 (0, 0))) ⟨(Keep.refl _ _).alloc _ (fun _ h => h), by rw [HX.out]; exact heap_alloc_new w _⟩ ?_
  rintro w1 ⟨k1, h1⟩
  have H1 := hid (And.intro k1 h1)
  clear k1 h1 c0 c1 c2 c3 c4 c5 c6 c7 c8 c9 c10 c11 c12 c13 c14 c15 c16 HX
  go_loopg [28] 18 (fun k s28 wr => ∃ i, i + k = 18 ∧ i ≤ n ∧ s28 = .int .i64 (i : Int) ∧ wr = w1)
  case atStart => exact ⟨0, rfl, Nat.zero_le _, rfl, rfl⟩
  case round =>
    obtain ⟨i, hi, hin, rfl, rfl⟩ := hrel
    have l0 : (i : Int) < 17 := by omega
    obtain ⟨b, hb⟩ : ∃ b, xs[i]? = some b := ⟨_, List.getElem?_eq_getElem (by omega)⟩
    have cb : wr.cell? ⟨w.heap.size, i, none⟩ = some (.iface 133 (.pointer (some b))) := by
      rw [cell_at H1.out.2, List.getElem?_map, hb]; rfl
    have HB := hid hb
    clear hb
    by_cases e : i = n
    · subst e
      have hab : b = a := Option.some.inj (HB.out.symm.trans HA.out)
      subst hab
      go_wp2_with fail
      refine (is_same b wr).mono ?_
      rintro e' w2 ⟨rfl, rfl⟩
      go_wp2_with fail
      go_ret
      refine ⟨?_, H1.out.1⟩
      show Ending.returned (.int .i64 ((i : Int) + 1)) = _
      rfl
    · have hne : a ≠ b := by
        intro h
        have h1 := HA.out
        rw [h] at h1
        obtain ⟨p1, q1⟩ := List.getElem?_eq_some_iff.1 h1
        obtain ⟨p2, q2⟩ := List.getElem?_eq_some_iff.1 HB.out
        have := List.getElem_inj (h₀ := p1) (h₁ := p2) HD.out |>.1 (q1.trans q2.symm)
        omega
      obtain ⟨ga, _, ea⟩ := errs_get HE.out n a HA.out
      obtain ⟨gb, _, eb⟩ := errs_get HE.out i b HB.out
      obtain ⟨ca, ta, ha'⟩ := ea.blk
      obtain ⟨cb', tb, hb'⟩ := eb.blk
      have F1 := hid ((H1.out.1.block _ ea.blt).trans ha')
      have F2 := hid ((H1.out.1.block _ eb.blt).trans hb')
      clear ha' hb' ea eb
      go_wp2_with fail
      refine (is_other a b _ _ _ _ wr hne F1.out F2.out).mono ?_
      rintro e' w2 ⟨rfl, rfl⟩
      go_wp2_with fail
      go_roundg (gk - 1)
      case measure => omega
      case rel => exact ⟨i + 1, by omega, by omega, by go_num, rfl⟩
end Go.Proofs.YtalihehmbiohlaaDoor
