/-
  slices.Sorted(maps.Keys(m)) of a map with int keys: its keys, rising.
-/
import Derived.Test.YtalihehmbiohlaaDoorIterC
import Derived.Test.YtalihehmbiohlaaDoorMapI
import Derived.Lib.SlKeysI
namespace Go.Proofs.YtalihehmbiohlaaDoor
open Go.RowKit Go.Maps Go.Sort Go.Shelf Go.Proofs.Mem

theorem keys_of_enc (m : Mp.Tab) : intKeys (Mp.enc m) = m.map (·.1) := by
  simp only [Mp.enc, intKeys, List.map_map]
  rfl
theorem sorted_rising {m : Mp.Tab} (h : Mp.Rising m) {ss : List Int} (hp : ss.Perm (m.map (·.1))) : ss.mergeSort (fun x y => decide (x ≤ y)) = m.map (·.1) := by
  rw [show ss.mergeSort (fun x y => decide (x ≤ y)) = (m.map (·.1)).mergeSort (fun x y => decide (x ≤ y)) from mergeSort_of_perm_i hp]
  refine List.mergeSort_of_pairwise ?_
  rw [List.pairwise_map]
  exact h.imp (fun {p q} h => by simp; omega)
/-- slices.Sort's two contracts here. -/
theorem sorts_here (n : Nat) : AnyZI.SortsIn Tryd.prog Tryd.sortedA_ren Fence.wide n :=
  ⟨fun blk off cap ss W hH hblk hsz => callsIn_wide.2 (AnyM.slices_Sort_int Tryd.sortA blk off cap ss W hH hblk hsz),
   fun p cap W => callsIn_wide.2 (AnyM.slices_Sort_int_none Tryd.sortA p cap W)⟩
theorem keys_call (b : Nat) (w : World) : Calls Tryd.prog 27 #[.map (some b)] w fun e w' => e = .returned (.func (.func 36) #[] #[.pointer (some ⟨w.heap.size, 0, none⟩)]) ∧ w' = w.alloc (.cells #[.map (some b)] 58) :=
  (callsIn_wide (n := 5)).1 (AnyZI.keys_in Tryd.keysA Fence.wide 5 trivial rfl (some b) w)
theorem sorted_call (b : Nat) (m : Mp.Tab) (w : World) (h : Mp.IMap Tryd.prog 3 w b m) (hl : m.length ≤ 1000000) :
    Calls Tryd.prog 26 #[.func (.func 36) #[] #[.pointer (some ⟨w.heap.size, 0, none⟩)]] (w.alloc (.cells #[.map (some b)] 58)) fun e w' => ∃ v, e = .returned v ∧ Row w' 3 v ((m.map (·.1)).map fun k => Value.int .i64 k) ∧ (∀ k, v.ownBlock = some k → w.heap.size ≤ k) ∧ Keep (· < w.heap.size) w w' := by
  have hbl := h.lt
  have hs := Mp.size_enc m
  have hseq : SeqGives Fence.wide 2 Tryd.prog 36 #[.pointer (some ⟨w.heap.size, 0, none⟩)] encZ (fun ss => ss.Perm (intKeys (Mp.enc m))) (Maps.size (Mp.enc m)) (w.alloc (.cells #[.map (some b)] 58)) :=
    AnyZI.keys_gives (ρ := Tryd.keysA_ren) { Tryd.keysA with } Fence.wide _ trivial rfl (by omega) w.heap.size b m.length (Mp.enc m) _ (by simp) (by simp) (by
      obtain ⟨es, clock, hb, Ft, hs, hD⟩ := h
      exact ⟨es, clock, (Below.heap_alloc _ _ b hbl).trans hb, Ft, hs, hD⟩)
  have cS := AnyZI.sorted_in Tryd.sortedA Fence.wide 5 trivial trivial trivial trivial rfl (by omega) (sorts_here _) (enters_of Tryd.func35 (by kernel_rfl) rfl) 36 #[.pointer (some ⟨w.heap.size, 0, none⟩)] trivial (enters_of Tryd.func36 (by kernel_rfl) rfl) _ _ (by rw [hs]; unfold maxLen; omega) (by rw [hs]; omega) _ hseq
  refine ((callsIn_wide (n := 5)).1 cS).mono ?_
  rintro e w' ⟨v, ss, rfl, hS, hrow, _, hb⟩
  rw [keys_of_enc] at hS
  have hl2 : ss.length = m.length := by rw [hS.length_eq, List.length_map]
  rw [sorted_rising (h.rising (int_keyed Tryd.underlying3)) hS, hl2] at hrow
  have k0 : Keep (· < w.heap.size) w (w.alloc (.cells #[.map (some b)] 58)) := (Keep.refl _ _).alloc _ (fun _ h => h)
  refine ⟨v, rfl, ⟨by simp, ?_⟩, fun k hk => ?_, k0.trans ((Keep.of_below hb).mono (fun k hk => by simp; omega))⟩
  · rcases hrow.2 with ⟨rfl, h0⟩ | ⟨g, c, cur, rfl, h1, h2, h3, h4, h5, h6⟩
    · exact .inl ⟨rfl, by simp [h0]⟩
    · exact .inr ⟨g, c, cur, by simp, Nat.zero_le _, h2, by simpa using h3, h4, h5, by simpa using h6⟩
  · have := (World.ownsRow.lt hrow k hk).1
    simp at this
    omega
end Go.Proofs.YtalihehmbiohlaaDoor
