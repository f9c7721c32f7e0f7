/-
  Step by step: the examples of the chapter ('alive' of the statements of layer 21).
-/
import Derived.Test.YtnpneippahdigaaDoorWireD
import Derived.Test.YtnpneippahdigaaDoorMem
import Derived.Lib.SlBytesConst
namespace Go.Proofs.YtnpneippahdigaaDoor
open Go.RowKit Go.Proofs.Mem

theorem mask40 (n : Int) : ∃ q : Nat, bits .and .i64 n 1099511627775 = (q : Int) ∧ q ≤ 1099511627775 := by
  refine ⟨(BitVec.ofInt 64 n).toNat &&& 1099511627775, ?_, Nat.and_le_right⟩
  show IntKind.i64.wrap ((BitVec.ofInt 64 n &&& BitVec.ofInt 64 1099511627775).toNat : Int) = _
  rw [BitVec.toNat_and]
  have h : (BitVec.ofInt 64 1099511627775).toNat = 1099511627775 := by decide
  rw [h]
  have h2 : (BitVec.ofInt 64 n).toNat &&& 1099511627775 ≤ 1099511627775 := Nat.and_le_right
  exact i64_nat _ (by omega)

set_option maxRecDepth 100000 in
set_option maxHeartbeats 2000000 in
theorem alive21_walk (w : World) (hT : TurnsAt w) : Calls Tryd.prog 26 #[] w fun e w' => e = .returned (.bool true) ∧ Keep (· < w.heap.size) w w' := by
  have HT := hid hT
  clear hT
  have kc := fun (w : World) (C : Array Value) (n c : Nat) => Lib.run_convert_bytes_const (P := Tryd.prog) w 32 5 C n c Tryd.underlying32 Tryd.underlying5
  have kc2 := fun (w : World) (o : Obj) (C : Array Value) (n c : Nat) => Lib.run_convert_bytes_const (P := Tryd.prog) (w.alloc o) 32 5 C n c Tryd.underlying32 Tryd.underlying5
  simp only [World.size_alloc] at kc2
  have KC := hid kc
  go_enter Tryd.func26, Tryd.ntmps26
  go_wp2_with fail
  refine calls_world (fun w1 => Keep (· < w.heap.size) w w1 ∧ Cells w1 (fun _ => True) (.slice (some ⟨w.heap.size, 0, none⟩) 1 1) (ints .u8 [107]) ∧ Cells w1 (fun _ => True) (.slice (some ⟨w.heap.size + 1, 0, none⟩) 4 4) (ints .u8 [98, 111, 100, 121])) ⟨((Keep.refl _ _).alloc _ (fun _ h => h)).alloc _ (fun k h => by simp; omega), ?_, ?_⟩ ?_
  · exact Cells.of_block (cur := ints .u8 [107]) (off := 0) ((Below.heap_alloc _ _ _ (by simp)).trans (heap_alloc_new w _)) trivial (by decide) (Nat.le_refl _) (by decide)
  · exact Cells.of_block (cur := ints .u8 [98, 111, 100, 121]) (off := 0) (heap_alloc2_new w _ _) trivial (by decide) (Nat.le_refl _) (by decide)
  rintro w1 ⟨k1, s1, s2⟩
  have z1 := k1.size
  refine (sign_good _ _ [107] [98, 111, 100, 121] 1 7 w1 _ _ (by decide) (by decide) (by decide) (by decide) (HT.out.keep k1 HT.out.lt) s1 s2).mono ?_
  rintro e w2 ⟨b', rfl, fb, k2, z2⟩
  have H2 := hid (And.intro (k1.trans (k2.mono (fun b h => Nat.lt_of_lt_of_le h z1))) fb)
  have z12 : w.heap.size ≤ w2.heap.size := Nat.le_trans z1 z2
  clear k1 k2 fb s1 s2 kc kc2
  obtain ⟨D, hD⟩ : ∃ D, Sha.tag [107] (Wr.signed 1 7 [98, 111, 100, 121]) = D := ⟨_, rfl⟩
  have hDl : D.length = 32 := by rw [← hD]; exact tag_length (by decide)
  have hDb : ∀ x ∈ D, x < 256 := by rw [← hD]; exact tag_lt
  rw [hD]
  have HD := hid (And.intro hD hDb)
  clear hD hDb
  obtain ⟨ba, bn, bc, rfl⟩ := cells_form H2.out.2.cells
  have hl35 : 35 = (frC 1 7 D (.slice ba bn bc)).toArray.size := by rw [List.size_toArray, frC_length hDl]
  have hi := frC_size hDl 1 7 (.slice ba bn bc)
  have h1 := frC_one 1 7 D (.slice ba bn bc) rfl
  go_upto_region 2 with (refine wpList_store_row rfl 49 (.tmp 1) (.tmp 9) rfl w2.heap.size (frC 1 7 D (.slice ba bn bc)).toArray rfl rfl 49 _ (heap_alloc_new w2 _) hi hl35 h1 ?_)
  refine wp_world (fun w3 => w3.heap[w2.heap.size]? = some (.cells (frC 1 7 D (.slice ba bn bc)).toArray 49 (0, 0)) ∧ Keep (· < w2.heap.size) w2 w3 ∧ w2.heap.size < w3.heap.size) ⟨heap_setRow (heap_alloc_new w2 _) _, ((Keep.refl _ _).alloc _ (fun _ h => h)).setRow _ (by simp), by simp⟩ ?_
  rintro w3 ⟨F3, k3, z3⟩
  obtain ⟨B, hB⟩ : ∃ B, w2.heap.size = B := ⟨_, rfl⟩
  have c1 : w3.cell? ⟨B, 1, none⟩ = some (.int .i64 7) := by rw [← hB]; exact (cell_at F3 1).trans (frC_1 _ _ _ _)
  have fb3 := H2.out.2.keep k3 (fun b _ h => h)
  have kw3 := H2.out.1.trans (k3.mono (fun b h => Nat.lt_of_lt_of_le h z12))
  rw [hB] at F3 z3 ⊢
  have zB : w.heap.size ≤ B := by rw [← hB]; exact z12
  have ka : Keep (· < w3.heap.size) w3 (w3.alloc (.cells #[.int .u8 107] 5 (1, 2))) := (Keep.refl _ _).alloc _ (fun _ h => h)
  have F3a := (ka.block B z3).trans F3
  have H3 := hid (And.intro kw3 (And.intro F3 (And.intro fb3 F3a)))
  have kc := fun (w : World) => Lib.run_convert_bytes_const (P := Tryd.prog) w 32 5 #[.int .u8 107] 1 1 Tryd.underlying32 Tryd.underlying5
  clear F3 k3 fb3 kw3 F3a H2 hl35 h1 hB z12 z2
  go_wp2_with (refine wpList_load_row_if (by rfl) 49 (.tmp 1) rfl B rfl 49 _ (0, 0) _ H3.out.2.2.2 Tryd.underlying49 rfl hi ?_)
  refine calls_world (fun w4 => Keep (· < w3.heap.size) w3 w4 ∧ Cells w4 (fun _ => True) (.slice (some ⟨w3.heap.size, 0, none⟩) 1 1) (ints .u8 [107])) ⟨ka, Cells.of_block (cur := ints .u8 [107]) (off := 0) (heap_alloc_new w3 _) trivial (by decide) (Nat.le_refl _) (by decide)⟩ ?_
  rintro w4 ⟨k4, s4⟩
  have z34 := k4.size
  have kw4 := H3.out.1.trans (k4.mono (fun b (h : b < w.heap.size) => by omega))
  have fb4 := H3.out.2.2.1.keep k4 (fun b _ h => h)
  refine (right_good _ _ [107] D [98, 111, 100, 121] 1 7 w4 _ _ (by decide) (by decide) HD.out.2 hDl (by decide) (by decide) (HT.out.keep kw4 HT.out.lt) s4 fb4.cells).mono ?_
  rintro e w5 ⟨rfl, k5⟩
  have e1 : decide (Sha.tag [107] (Wr.signed 1 7 [98, 111, 100, 121]) = D) = true := by rw [HD.out.1]; simp
  rw [e1]
  have c34 : w5.cell? ⟨B, 34, none⟩ = some (.slice ba bn bc) := by
    rw [k5.cell (x := ⟨B, 34, none⟩) (Nat.lt_of_lt_of_le z3 z34), k4.cell (x := ⟨B, 34, none⟩) z3]
    exact (cell_at H3.out.2.1 34).trans (frC_34 hDl _ _ _)
  have cv : (convert 32 9 (.slice ba bn bc)).run Tryd.prog w5 = .ok (.string { data := #[98, 111, 100, 121] }) w5 :=
    convert_bytes (P := Tryd.prog) 32 5 9 Tryd.underlying32 Tryd.underlying5 Tryd.underlying9 w5 (xs := [98, 111, 100, 121]) (fb4.keep k5 (fun b _ h => h)).cells
  have H5 := hid (kw4.trans (k5.mono (fun b (h : b < w.heap.size) => by omega)))
  clear e1 kw4 fb4 s4 k4 k5 kc H3 ka
  go_wp2_with fail
  go_ret
  exact ⟨rfl, H5.out⟩
end Go.Proofs.YtnpneippahdigaaDoor
