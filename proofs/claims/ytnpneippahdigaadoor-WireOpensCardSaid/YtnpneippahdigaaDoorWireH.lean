/-
  Step by step: 'Last', 'Open' of package wire.
-/
import Derived.Test.YtnpneippahdigaaDoorWireG
namespace Go.Proofs.YtnpneippahdigaaDoor
open Go.RowKit Go.Proofs.Mem Go.Proofs.Txt

set_option maxRecDepth 100000 in
theorem last_in (tb i : Nat) (B U g : Nat) (keys : List (List Nat)) (lasts : List Nat) (w : World) (hi : i < keys.length) (h : TableAt w B U tb g keys lasts) :
    Calls Tryd.prog 38 #[.pointer (some ⟨tb, 0, none⟩), .int .i64 (i : Int)] w fun e w' => e = .returned (.int .i64 (lasts.getD i 0 : Nat)) ∧ w = w' := by
  obtain ⟨cap, kvs, cur, h1, h2, h3, h4, h5, h6, h7, h8, h9⟩ := h
  have ct : w.cell? ⟨tb, 0, none⟩ = some (.slice (some ⟨g, 0, none⟩) keys.length cap) := by have := cell_at (cs := [.slice (some ⟨g, 0, none⟩) keys.length cap]) h1 0; simpa using this
  have cl := (h9 i hi).2.1
  obtain ⟨L, hL⟩ : ∃ L, keys.length = L := ⟨_, rfl⟩
  rw [hL] at ct hi h4
  obtain ⟨x, hx⟩ : ∃ x, lasts.getD i 0 = x := ⟨_, rfl⟩
  rw [hx] at cl ⊢
  have t1 : decide ((i : Int) < 0) = false := by simp
  have t2 : decide ((L : Int) ≤ (i : Int)) = false := by simp; omega
  have l0 : (i : Int) < (L : Int) := by omega
  clear h1 h2 h3 h6 h7 h8 h9 hL hx hi
  go_enter Tryd.func38, Tryd.ntmps38
  go_wp2_with fail
  go_ret
  exact ⟨rfl, rfl⟩
set_option maxRecDepth 100000 in
theorem last_out (tb : Nat) (i : Int) (B U g : Nat) (keys : List (List Nat)) (lasts : List Nat) (w : World) (hi : i < 0 ∨ (keys.length : Int) ≤ i) (h : TableAt w B U tb g keys lasts) :
    Calls Tryd.prog 38 #[.pointer (some ⟨tb, 0, none⟩), .int .i64 i] w fun e w' => e = .returned (.int .i64 (-1)) ∧ w = w' := by
  obtain ⟨cap, kvs, cur, h1, h2, h3, h4, h5, h6, h7, h8, h9⟩ := h
  have ct : w.cell? ⟨tb, 0, none⟩ = some (.slice (some ⟨g, 0, none⟩) keys.length cap) := by have := cell_at (cs := [.slice (some ⟨g, 0, none⟩) keys.length cap]) h1 0; simpa using this
  obtain ⟨L, hL⟩ : ∃ L, keys.length = L := ⟨_, rfl⟩
  rw [hL] at ct hi h4
  clear h1 h2 h3 h6 h7 h8 h9 hL
  by_cases h0 : i < 0
  · have t1 : decide (i < 0) = true := by simp; omega
    clear h0 hi
    go_enter Tryd.func38, Tryd.ntmps38
    go_wp2_with fail
    go_ret
    exact ⟨rfl, rfl⟩
  · have t1 : decide (i < 0) = false := by simp; omega
    have t2 : decide ((L : Int) ≤ i) = true := by simp; omega
    clear h0 hi
    go_enter Tryd.func38, Tryd.ntmps38
    go_wp2_with fail
    go_ret
    exact ⟨rfl, rfl⟩
end Go.Proofs.YtnpneippahdigaaDoor
