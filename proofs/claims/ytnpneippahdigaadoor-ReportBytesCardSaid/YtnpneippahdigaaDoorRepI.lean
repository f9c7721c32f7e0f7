/-
  Step by step: 'value' of the reference of layer 20.
-/
import Derived.Test.YtnpneippahdigaaDoorRepD
namespace Go.Proofs.YtnpneippahdigaaDoor
open Go.RowKit Go.Proofs.Mem Go.Proofs.Txt


set_option maxRecDepth 100000 in
set_option maxHeartbeats 1000000 in
theorem rvalue_walk (v : Value) (xs : List Nat) (w : World) (p : Nat → Prop) (hx : ∀ x ∈ xs, x < 256) (hv : Cells w p v (ints .u8 xs)) :
    Calls Tryd.prog 65 #[v] w fun e w' => e = .returned (.int .i64 (Wr.i64 (Drw.num8 xs))) ∧ w = w' := by
  obtain ⟨a1, n1, c1, rfl, e1, m1, q1, hcc⟩ := hv
  rw [ints_length] at e1
  subst e1
  have q1' : c1 ≤ 9223372036854775807 := by simpa [maxLen] using q1
  have HCC := hid hcc
  have HX := hid hx
  clear q1 hcc hx
  go_enter Tryd.func65, Tryd.ntmps65
  go_wp2_with fail
  go_loopg [3, 8] xs.length (fun k s3 s8 wr => ∃ i u : Nat, i + k = xs.length ∧ s8 = .int .i64 (i : Int) ∧ s3 = .int .u64 (u : Int) ∧ Hid (u = Drw.num8 (xs.take i)) ∧ u < 18446744073709551616 ∧ wr = w)
  case atStart => exact ⟨0, 0, by omega, rfl, rfl, hid (by rw [List.take_zero]; rfl), by decide, rfl⟩
  case round =>
    obtain ⟨i, u, hi, rfl, rfl, hu, hul, rfl⟩ := hrel
    by_cases hlt : i < xs.length
    · obtain ⟨x, hx⟩ : ∃ x, xs.getD i 0 = x := ⟨_, rfl⟩
      obtain ⟨blk, off, rfl, hp, hc⟩ := HCC.out (by omega)
      have cx : wr.cell? ⟨blk, off + i, none⟩ = some (.int .u8 (x : Int)) := by
        rw [hc i hlt, ints_get _ _ _ hlt, hx]
      have hxl : x < 256 := by rw [← hx, List.getD_eq_getElem?_getD, List.getElem?_eq_getElem hlt]; exact HX.out _ (List.getElem_mem hlt)
      have l0 : (i : Int) < (xs.length : Int) := by omega
      obtain ⟨z, hz⟩ : ∃ z, (u * 256 % 18446744073709551616) ||| x = z := ⟨_, rfl⟩
      have hz2 := hz
      rw [Wr.or_add u x hxl] at hz2
      obtain ⟨y, hy⟩ : ∃ y : Nat, u * 256 % 18446744073709551616 = y := ⟨_, rfl⟩
      rw [hy] at hz2
      have e1 : IntKind.u64.wrap (256 * (u : Int)) = (y : Int) := by rw [IntKind.wrap_u64]; omega
      have e2 : IntKind.u64.wrap ((y : Int) + (x : Int)) = (z : Int) := by rw [IntKind.wrap_u64]; omega
      have hzl : z < 18446744073709551616 := by omega
      have hyl : y ≤ 18446744073709551360 := by omega
      have HZ := hid (And.intro hx hz)
      clear hx hc hz hy hz2
      go_wp2_with fail
      go_roundg (gk - 1)
      case measure => omega
      case rel =>
        refine ⟨i + 1, z, by omega, by go_num, by go_num, hid ?_, hzl, rfl⟩
        rw [← take_snoc' xs i hlt, Drw.num8_snoc, ← hu.out, HZ.out.1, HZ.out.2]
    · obtain rfl : i = xs.length := by omega
      have ew := i64_wrap u hul
      have he : u = Drw.num8 xs := by have := hu.out; rwa [List.take_of_length_le (Nat.le_refl _)] at this
      have HE := hid he
      clear he
      go_wp2_with fail
      go_ret
      refine ⟨?_, rfl⟩
      rw [HE.out]
      rfl

end Go.Proofs.YtnpneippahdigaaDoor
