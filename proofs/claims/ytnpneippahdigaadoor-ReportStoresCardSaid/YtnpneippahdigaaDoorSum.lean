/-
  Step by step: 'New', 'Copy', 'Len', 'Sum', 'Of' of package digest.
-/
import Derived.Test.YtnpneippahdigaaDoorTake
namespace Go.Proofs.YtnpneippahdigaaDoor
open Go.RowKit Go.Proofs.Mem

set_option maxRecDepth 100000 in
theorem new_walk (w : World) : Calls Tryd.prog 99 #[] w fun e w' => e = .returned (.pointer (some ⟨w.heap.size, 0, none⟩)) ∧ Keep (· < w.heap.size) w w' ∧ w'.heap.size = w.heap.size + 1 ∧ StAt w' w.heap.size Sha.St.new := by
  go_enter Tryd.func99, Tryd.ntmps99
  go_wp2
  go_ret
  refine ⟨rfl, (Keep.refl _ _).alloc _ (fun _ h => h), by simp, ?_⟩
  unfold StAt
  rw [heap_alloc_new]
  rfl

theorem stC_size {s : Sha.St} (h : Good s) : (Tryd.prog.info? 190).map (·.size) = some (stC s).toArray.size := by
  rw [List.size_toArray, stC_length h]; kernel_rfl
theorem stC_one (s : Sha.St) : (stC s).toArray.all (·.oneCell') = true := by
  rw [Array.all_eq_true_iff_forall_mem]
  intro v hv
  simp only [List.mem_toArray, stC, stCells, List.mem_append, List.mem_singleton] at hv
  rcases hv with hv | hv | rfl
  · exact ints_one _ _ v hv
  · exact ints_one _ _ v hv
  · rfl

set_option maxRecDepth 100000 in
theorem copy_walk (b : Nat) (s : Sha.St) (w : World) (hg : Good s) (hb : StAt w b s) : Calls Tryd.prog 101 #[.pointer (some ⟨b, 0, none⟩)] w fun e w' => e = .returned (.pointer (some ⟨w.heap.size, 0, none⟩)) ∧ Keep (· < w.heap.size) w w' ∧ w'.heap.size = w.heap.size + 1 ∧ StAt w' w.heap.size s := by
  have Hb := hid hb
  have HG := hid hg
  have hold : Tryd.zeroCells190.size = (stC s).toArray.size := (show _ = 73 by kernel_rfl : Tryd.zeroCells190.size = 73).trans (by rw [List.size_toArray, stC_length hg])
  have hi := stC_size hg
  clear hb hg
  go_enter Tryd.func101, Tryd.ntmps101
  go_wp2_with (first | (refine wpList_load_row rfl 190 (.tmp 5) rfl b rfl 190 _ (0, 0) _ Hb.out Tryd.underlying190 rfl (stC_size HG.out) ?_) | (refine wpList_store_row rfl 190 (.tmp 3) (.tmp 6) rfl w.heap.size (stC s).toArray rfl rfl 190 _ (heap_alloc_new w _) hi hold (stC_one s) ?_))
  go_ret
  refine ⟨rfl, ((Keep.refl _ _).alloc _ (fun _ h => h)).setRow _ (by simp), by simp, ?_⟩
  exact heap_setRow (heap_alloc_new w _) _

end Go.Proofs.YtnpneippahdigaaDoor
