/-
  Step by step: room, pipe of the watcher.
-/
import Derived.Test.YtalihehmbiohlaaDoorOrdW
namespace Go.Proofs.YtalihehmbiohlaaDoor
open Go.RowKit Go.Maps Go.Proofs.Mem Go.Proofs.Txt Go.Proofs.Ord Go.Proofs.Mp

set_option maxRecDepth 100000 in
set_option maxHeartbeats 2000000 in
theorem room_walk (rooms : List Int) (rv : Value) (W : Nat) (c : Int) (w : World) (p : Nat → Prop) (hr : Cells w p rv (rooms.map (Value.int .i64))) (hw : w.cell? ⟨W, 0, none⟩ = some rv) :
    Calls Tryd.prog 39 #[.pointer (some ⟨W, 0, none⟩), .int .i64 c] w fun e w' => e = .returned (.int .i64 (roomOf rooms c : Nat)) ∧ Keep (fun _ => True) w w' := by
  have HR := hid hr
  obtain ⟨a1, n1, c1, rfl, e1, m1, q1, hc⟩ := hr
  rw [List.length_map] at e1
  subst e1
  have HC := hid hc
  have q1' : c1 ≤ 9223372036854775807 := by simpa [maxLen] using q1
  obtain ⟨R, hR⟩ : ∃ R, roomOf rooms c = R := ⟨_, rfl⟩
  rw [hR]
  have HRR := hid hR
  clear q1 hc hR
  go_enter Tryd.func39, Tryd.ntmps39
  by_cases h0 : c < 0
  · have d0 : decide (c < 0) = true := by simp [h0]
    have hz : R = 0 := by rw [← HRR.out]; unfold roomOf; rw [if_pos h0]
    subst hz
    clear h0
    go_wp2_with fail
    go_ret
    exact ⟨rfl, Keep.refl _ _⟩
  · have d0 : decide (c < 0) = false := by simp [h0]
    obtain ⟨k, rfl⟩ : ∃ k : Nat, c = (k : Int) := ⟨c.toNat, by omega⟩
    have hz : R = (rooms.getD k 0).toNat := by rw [← HRR.out]; unfold roomOf; rw [if_neg h0, Int.toNat_natCast]
    have HZ := hid hz
    clear h0 hz
    by_cases h1 : k < rooms.length
    · have d1 : decide (rooms.length ≤ k) = false := by simp; omega
      obtain ⟨b, o, ha, _, hcc⟩ := HC.out (by omega)
      subst ha
      have l0 : (k : Int) < (rooms.length : Int) := by omega
      obtain ⟨z, hz⟩ : ∃ z, rooms.getD k 0 = z := ⟨_, rfl⟩
      have hk : w.cell? ⟨b, o + k, none⟩ = some (.int .i64 z) := by
        rw [hcc k h1, List.getElem?_map, List.getElem?_eq_getElem h1, ← hz, List.getD_eq_getElem?_getD, List.getElem?_eq_getElem h1]; rfl
      rw [hz] at HZ
      clear hcc h1 hz
      by_cases hz0 : 0 ≤ z
      · go_wp2_with fail
        go_ret
        exact ⟨by rw [HZ.out, Int.toNat_of_nonneg hz0]; rfl, Keep.refl _ _⟩
      · go_wp2_with fail
        go_ret
        exact ⟨by rw [HZ.out, Int.toNat_of_nonpos (by omega)]; rfl, Keep.refl _ _⟩
    · have d1 : decide (rooms.length ≤ k) = true := by simp; omega
      have hz : R = 0 := by rw [HZ.out, List.getD_eq_getElem?_getD, List.getElem?_eq_none (by omega)]; rfl
      subst hz
      clear h1
      go_wp2_with fail
      go_ret
      exact ⟨rfl, Keep.refl _ _⟩
end Go.Proofs.YtalihehmbiohlaaDoor
