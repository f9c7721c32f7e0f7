/-
  Step by step: the examples of the chapter ('alive' of the statements of layer 3).
-/
import Derived.Test.YtjknjjcdgniodaaDoorTag2
import Derived.Test.YtjknjjcdgniodaaDoorMem3
import Derived.Lib.SlBytesConst
namespace Go.Proofs.Sha
theorem of_nil6 : (of []).take 6 = [227, 176, 196, 66, 152, 252] := by decide +kernel
theorem jefe6 : (tag [74, 101, 102, 101] [119, 104, 97, 116, 32, 100, 111, 32, 121, 97, 32, 119, 97, 110, 116, 32, 102, 111, 114, 32, 110, 111, 116, 104, 105, 110, 103, 63]).take 6 = [91, 220, 193, 70, 191, 96] := by decide +kernel
end Go.Proofs.Sha
namespace Go.Proofs.YtjknjjcdgniodaaDoor
open Go.RowKit Go.Proofs.Mem

def jefe : List Nat := [74, 101, 102, 101]
def want : List Nat := [119, 104, 97, 116, 32, 100, 111, 32, 121, 97, 32, 119, 97, 110, 116, 32, 102, 111, 114, 32, 110, 111, 116, 104, 105, 110, 103, 63]

set_option maxRecDepth 100000 in
set_option maxHeartbeats 1000000 in
theorem alive3_walk (w : World) (hT : TurnsAt w) : Calls Tryd.prog 15 #[] w fun e w' => e = .returned (.bool true) ∧ Keep (· < w.heap.size) w w' := by
  have HT := hid hT
  clear hT
  go_enter Tryd.func15, Tryd.ntmps15
  go_wp2_with fail
  refine (of_walk _ [] w (fun _ => True) (by simp) (by simp) HT.out (Cells.nil _ _)).mono ?_
  rintro e w1 ⟨rfl, k1⟩
  obtain ⟨F, hF⟩ : ∃ F, Sha.of [] = F := ⟨_, rfl⟩
  have hFl : F.length = 32 := by rw [← hF]; exact of_length (by simp)
  have hi32 := info32 F hFl
  have hold : (ints .u8 (List.replicate 32 0)).toArray.size = (ints .u8 F).toArray.size := by simp [ints_length, hFl]
  have HF := hid hF
  have H1 := hid k1
  rw [hF]
  clear hF k1
  go_upto_region 2 with (refine wpList_store_row rfl 24 (.tmp 1) (.tmp 3) rfl w1.heap.size (ints .u8 F).toArray rfl rfl 24 _ (heap_alloc_new w1 _) hi32 hold (ints_all _ _) ?_)
  refine wp_world (fun w2 => Keep (· < w1.heap.size) w1 w2 ∧ w2.heap[w1.heap.size]? = some (.cells (ints .u8 F).toArray 24 (0, 0))) ⟨((Keep.refl _ _).alloc _ (fun _ h => h)).setRow _ (by simp), heap_setRow (heap_alloc_new w1 _) _⟩ ?_
  rintro w2 ⟨k2, h2⟩
  obtain ⟨d, hd⟩ : ∃ d, w1.heap.size = d := ⟨_, rfl⟩
  rw [hd] at h2 ⊢
  have hz1 : w.heap.size ≤ d := by rw [← hd]; exact H1.out.size
  have hz2 : d < w2.heap.size := (Array.getElem?_eq_some_iff.1 h2).1
  have H2 := hid (And.intro (H1.out.trans (k2.mono (fun k h => by omega))) h2)
  clear k2 h2 H1 hold hi32 hd w1
  have kc := fun (w : World) (C : Array Value) (n c : Nat) => Lib.run_convert_bytes_const (P := Tryd.prog) w 22 5 C n c Tryd.underlying22 Tryd.underlying5
  have kc2 := fun (w : World) (o : Obj) (C : Array Value) (n c : Nat) => Lib.run_convert_bytes_const (P := Tryd.prog) (w.alloc o) 22 5 C n c Tryd.underlying22 Tryd.underlying5
  simp only [World.size_alloc] at kc2
  go_wp2_with fail
  refine calls_world (fun w3 => Keep (· < w2.heap.size) w2 w3 ∧ Cells w3 (fun _ => True) (.slice (some ⟨w2.heap.size, 0, none⟩) 4 4) (ints .u8 jefe) ∧ Cells w3 (fun _ => True) (.slice (some ⟨w2.heap.size + 1, 0, none⟩) 28 28) (ints .u8 want)) ⟨((Keep.refl _ _).alloc _ (fun _ h => h)).alloc _ (fun k h => by simp; omega), ?_, ?_⟩ ?_
  · exact Cells.of_block (cur := ints .u8 jefe) (off := 0) ((Below.heap_alloc _ _ _ (by simp)).trans (heap_alloc_new w2 _)) trivial (by decide) (Nat.le_refl _) (by decide)
  · exact Cells.of_block (cur := ints .u8 want) (off := 0) (heap_alloc2_new w2 _ _) trivial (by decide) (Nat.le_refl _) (by decide)
  rintro w3 ⟨k3, s1, s2⟩
  refine (tag_walk _ _ jefe want w3 _ _ (by decide) (by decide) (by decide) (by decide) (HT.out.keep (H2.out.1.trans (k3.mono (fun k h => by omega))) HT.out.lt) s1 s2).mono ?_
  rintro e w4 ⟨rfl, k4⟩
  obtain ⟨G, hG⟩ : ∃ G, Sha.tag jefe want = G := ⟨_, rfl⟩
  have hGl : G.length = 32 := by rw [← hG]; exact tag_length (by decide)
  have hi32 := info32 G hGl
  have hold : (ints .u8 (List.replicate 32 0)).toArray.size = (ints .u8 G).toArray.size := by simp [ints_length, hGl]
  have HG := hid hG
  have H4 := hid (And.intro (H2.out.1.trans ((k3.mono (fun k h => by omega)).trans (k4.mono (fun k h => by have := k3.size; omega)))) ((k4.block d (by have := k3.size; omega)).trans ((k3.block d hz2).trans H2.out.2)))
  have hz4 : d < w4.heap.size := by have := k3.size; have := k4.size; omega
  rw [hG]
  clear hG k4 s1 s2 k3 H2 kc kc2
  go_upto_region 3 with (refine wpList_store_row rfl 24 (.tmp 2) (.tmp 8) rfl w4.heap.size (ints .u8 G).toArray rfl rfl 24 _ (heap_alloc_new w4 _) hi32 hold (ints_all _ _) ?_)
  refine wp_world (fun w5 => Keep (· < w4.heap.size) w4 w5 ∧ w5.heap[w4.heap.size]? = some (.cells (ints .u8 G).toArray 24 (0, 0))) ⟨((Keep.refl _ _).alloc _ (fun _ h => h)).setRow _ (by simp), heap_setRow (heap_alloc_new w4 _) _⟩ ?_
  rintro w5 ⟨k5, h5⟩
  obtain ⟨g, hg⟩ : ∃ g, w4.heap.size = g := ⟨_, rfl⟩
  rw [hg] at h5 hz4 ⊢
  have hz5 : w.heap.size ≤ g := by rw [← hg]; exact H4.out.1.size
  have H5 := hid (And.intro (H4.out.1.trans (k5.mono (fun k h => by omega))) (And.intro ((k5.block d (by omega)).trans H4.out.2) h5))
  clear k5 h5 H4 hold hi32 hg w4
  have cf : (convert 22 9 (.slice (some ⟨d, 0, none⟩) 6 32)).run Tryd.prog w5 = .ok (.string { data := #[227, 176, 196, 66, 152, 252] }) w5 := by
    have := convert_bytes (P := Tryd.prog) 22 5 9 Tryd.underlying22 Tryd.underlying5 Tryd.underlying9 w5 (xs := F.take 6) (by
      have := Cells.of_block (w := w5) (p := fun _ => True) (cur := ints .u8 F) (off := 0) (n := 6) (cap := 32) H5.out.2.1 trivial (by rw [ints_length, hFl]; decide) (by decide) (by decide)
      rwa [List.drop_zero, show (ints .u8 F).take 6 = ints .u8 (F.take 6) by simp [ints]] at this)
    rw [this, ← HF.out, Sha.of_nil6]; rfl
  have cg : (convert 22 9 (.slice (some ⟨g, 0, none⟩) 6 32)).run Tryd.prog w5 = .ok (.string { data := #[91, 220, 193, 70, 191, 96] }) w5 := by
    have := convert_bytes (P := Tryd.prog) 22 5 9 Tryd.underlying22 Tryd.underlying5 Tryd.underlying9 w5 (xs := G.take 6) (by
      have := Cells.of_block (w := w5) (p := fun _ => True) (cur := ints .u8 G) (off := 0) (n := 6) (cap := 32) H5.out.2.2 trivial (by rw [ints_length, hGl]; decide) (by decide) (by decide)
      rwa [List.drop_zero, show (ints .u8 G).take 6 = ints .u8 (G.take 6) by simp [ints]] at this)
    rw [this, ← HG.out, show Sha.tag jefe want = _ from rfl, jefe, want, Sha.jefe6]; rfl
  go_wp2_with fail
  go_ret
  exact ⟨rfl, H5.out.1⟩
end Go.Proofs.YtjknjjcdgniodaaDoor
