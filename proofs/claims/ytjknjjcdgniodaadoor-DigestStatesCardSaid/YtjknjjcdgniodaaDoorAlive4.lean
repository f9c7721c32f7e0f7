/-
  Step by step: 'alive' of the statements of layer 4.
-/
import Derived.Test.YtjknjjcdgniodaaDoorDraw4
namespace Go.Proofs.Drw
theorem first_word : wordN (Sha.of []) 0 = 6655549341071012288 := by decide +kernel
end Go.Proofs.Drw
namespace Go.Proofs.YtjknjjcdgniodaaDoor
open Go.RowKit Go.Proofs.Mem

/-- a new stream is fit. -/
theorem DOk.new {w : World} {b : Nat} {xs : List Nat} (hx : ∀ x ∈ xs, x < 256) (hT : TurnsAt w) (hb : 17 < b) : DOk w b (Sha.of xs) := ⟨of_length hx, of_lt, hT, by omega⟩

set_option maxRecDepth 100000 in
set_option maxHeartbeats 2000000 in
theorem alive4_walk (w : World) (hT : TurnsAt w) : Calls Tryd.prog 31 #[] w fun e w' => e = .returned (.bool true) ∧ Keep (· < w.heap.size) w w' := by
  have HT := hid hT
  have hgt := hT.lt
  clear hT
  go_enter Tryd.func31, Tryd.ntmps31
  go_wp2_with fail
  refine (drawnew_walk _ [] w (fun _ => True) (by simp) (by simp) HT.out (Cells.nil _ _)).mono ?_
  rintro e w1 ⟨b, rfl, hwb, k1, h1⟩
  have H1 := hid (And.intro k1 h1)
  have z1 := h1.lt
  clear k1 h1
  go_wp2_with fail
  refine (dpick_one b w1).mono ?_
  rintro e w2 ⟨rfl, rfl⟩
  go_wp2_with fail
  refine (dword_walk b _ 0 0 w1 (by decide) (DOk.new (by simp) (HT.out.keep H1.out.1 HT.out.lt) (by omega)) H1.out.2).mono ?_
  rintro e w2 ⟨rfl, k2, h2⟩
  rw [Drw.first_word]
  have H2 := hid (And.intro (H1.out.1.trans (k2.mono (fun k h => by have := H1.out.1.size; omega))) h2)
  have z2 := h2.lt
  clear k2 h2 H1
  go_wp2_with fail
  refine (dwords_walk _ [] 0 1 w2 (fun _ => True) (by simp) (by simp) (by decide) (by decide) (HT.out.keep H2.out.1 HT.out.lt) (Cells.nil _ _)).mono ?_
  rintro e w3 ⟨u, rfl, k3, h3⟩
  have e1 : ints .u64 (wordsN (Sha.of []) 0 1) = [.int .u64 6655549341071012288] := by
    show [Value.int .u64 (Int.ofNat (Drw.wordN (Sha.of []) (0 + 0)))] = _
    rw [Nat.add_zero, Drw.first_word]; rfl
  rw [e1] at h3
  obtain ⟨blk, off, cap, rfl, hle, hcap, hp, hc⟩ := h3.at_ (by decide)
  have c0 : w3.cell? ⟨blk, off, none⟩ = some (.int .u64 6655549341071012288) := hc 0 (by decide)
  have H3 := hid (And.intro (H2.out.1.trans (k3.mono (fun k h => by have := H2.out.1.size; omega))) (H2.out.2.keep k3 z2))
  clear h3 hc k3 H2 e1 hle
  go_wp2_with fail
  refine (dtaken_walk b _ 1 0 w3 (of_length (by simp)) H3.out.2).mono ?_
  rintro e w4 ⟨rfl, rfl⟩
  go_wp2_with fail
  go_ret
  exact ⟨rfl, H3.out.1⟩
end Go.Proofs.YtjknjjcdgniodaaDoor
