/-
  Step by step: 'stockadenum.Bytes', 'stockadenum.Kept': a copy with marked room behind.
-/
import Derived.Test.YtnpneippahdigaaDoorMem
import Derived.Test.YtnpneippahdigaaDoorProg
import Derived.Test.YtnpneippahdigaaDoorTail
import Derived.OwnWalk
import Derived.Deep.LoopGhost
import Derived.BigQuiet
import Derived.Deep.QuietTactic
import Derived.Deep.DeepCutAuto
namespace Go.Proofs.YtnpneippahdigaaDoor
open Go.RowKit Go.Proofs.Mem

def marks6 : List Nat := [201, 202, 203, 204, 205, 206]
/-- a slice of so many bytes at the begin of a block of its own, whose cells are these bytes, six marks, and more. -/
def Marked (w : World) (B : Nat) (v : Value) (xs : List Nat) : Prop :=
  ∃ g cap cur, v = .slice (some ⟨g, 0, none⟩) xs.length cap ∧ B ≤ g ∧ w.heap[g]? = some (.cells cur 5 (0, 0)) ∧ cur.size = cap ∧ xs.length + 6 ≤ cap ∧ cap ≤ maxLen ∧ cur.toList.take (xs.length + 6) = ints .u8 (xs ++ marks6)

set_option maxRecDepth 100000 in
set_option maxHeartbeats 1000000 in
theorem bytes_walk (u : Value) (xs : List Nat) (w : World) (p : Nat → Prop) (hl : xs.length ≤ 1099511627776) (hu : Cells w p u (ints .u8 xs)) :
    Calls Tryd.prog 23 #[u] w fun e w' => ∃ v, e = .returned v ∧ Keep (· < w.heap.size) w w' ∧ Marked w' w.heap.size v xs := by
  have Hu := hid (hu.lt.mono (fun _ h => h.1))
  clear hu
  obtain ⟨a1, n1, c1, rfl, e1, m1, q1, _⟩ := Hu.out
  rw [ints_length] at e1
  subst e1
  have q1' : c1 ≤ 9223372036854775807 := by simpa [maxLen] using q1
  clear q1
  obtain ⟨i0, hi0, hz0, hs0, hb0⟩ := info_parts (show (Tryd.prog.info? 5).map (fun i => (i.zero, i.size, i.bytes)) = some (some (.int .u8 0), 1, 1) by kernel_rfl)
  obtain ⟨c, hc⟩ : ∃ c, xs.length + 6 = c := ⟨_, rfl⟩
  have ec : (xs.length : Int) + 6 = (c : Int) := by omega
  have hcl : c ≤ 1099511627782 := by omega
  have HC := hid hc
  clear hc
  have mk : ∀ w0 : World, (Instr.makeSlice 32 (.int .i64 0) (.int .i64 (c : Int))).run Tryd.prog w0 = .ok (.slice (some ⟨w0.heap.size, 0, none⟩) 0 c) (w0.alloc (.cells (ints .u8 (List.replicate c 0)).toArray 5)) := fun w0 => make_ints (P := Tryd.prog) 32 5 i0 .u8 1 Tryd.underlying32 hi0 hz0 hs0 hb0 0 c (by omega) (by omega) (by omega) w0
  have hown0 : Row (w.alloc (.cells (ints .u8 (List.replicate c 0)).toArray 5)) 5 (.slice (some ⟨w.heap.size, 0, none⟩) 0 c) [] :=
    ⟨rfl, .inr ⟨w.heap.size, c, (ints .u8 (List.replicate c 0)).toArray, rfl, Nat.zero_le _, heap_alloc_new w _, Nat.zero_le _, by unfold maxLen; omega, by simp [ints_length], rfl⟩⟩
  have k0 : Keep (· < w.heap.size) w (w.alloc (.cells (ints .u8 (List.replicate c 0)).toArray 5)) := (Keep.refl _ _).alloc _ (fun _ h => h)
  have HA := hid (append_at (P := Tryd.prog) 32 5 i0 (.int .u8 0) 1 Tryd.underlying32 hi0 hz0 hs0 hb0 rfl _ 32 _ (.slice a1 xs.length c1) _ (ints .u8 xs) hown0 (Hu.out.keep k0 (fun _ h => h)) (ints_one _ _) (by rw [ints_length]; simp; omega) (by rw [ints_length]; simp; omega))
  have HK0 := hid k0
  clear hown0 k0
  go_enter Tryd.func23, Tryd.ntmps23
  go_upto_region 2 with (first
    | (at_builtin; refine wpList_app rfl (.tmp 7) (.tmp 8) 32 32 rfl _ HA.out ?_; rintro v1 w1 ⟨r1, k1, o1⟩; rw [List.nil_append] at r1; have hb1 : Cells (w1.alloc (.cells (ints .u8 marks6).toArray 5)) (fun _ => True) (.slice (some ⟨w1.heap.size, 0, none⟩) 6 6) (ints .u8 marks6) := Cells.of_block (cur := ints .u8 marks6) (off := 0) (heap_alloc_new w1 _) trivial (by decide) (Nat.le_refl _) (by decide); have kk1 : Keep (· < w1.heap.size) w1 (w1.alloc (.cells (ints .u8 marks6).toArray 5)) := (Keep.refl _ _).alloc _ (fun _ h => h); have HB := hid (append_at (P := Tryd.prog) 32 5 i0 (.int .u8 0) 1 Tryd.underlying32 hi0 hz0 hs0 hb0 rfl _ 32 _ _ _ (ints .u8 marks6) (r1.keep kk1 (fun b hb => r1.lt hb)) hb1 (ints_one _ _) (by rw [ints_length, ints_length]; simp [marks6]; omega) (by rw [ints_length, ints_length]; simp [marks6]; omega)))
    | (at_builtin; refine wpList_app rfl (.tmp 9) (.tmp 10) 32 32 rfl _ HB.out ?_; rintro v2 w2 ⟨r2, k2, o2⟩))
  have hlen : (ints .u8 xs ++ ints .u8 marks6).length = c := by rw [List.length_append, ints_length, ints_length]; exact HC.out
  rcases r2.2 with ⟨_, hn⟩ | ⟨g, cp, cur, rfl, _, hg, hgl, hgm, hgs, hgt⟩
  · rw [hlen] at hn; omega
  · rw [hlen] at hgl hgt ⊢
    have hcp : cp ≤ 9223372036854775807 := by simpa [maxLen] using hgm
    have hxc : xs.length ≤ cp := by omega
    have hxc' : (xs.length : Int) ≤ (cp : Int) := by omega
    have hB : w.heap.size ≤ g := by
      rcases o2 g rfl with h | h
      · rcases o1 g h with h | h
        · simp [Value.ownBlock] at h; omega
        · simp at h; omega
      · have := k1.size
        have := kk1.size
        simp at *
        omega
    have K1 : Keep (· < w.heap.size) w w2 := HK0.out.trans ((k1.mono (fun k h => ⟨by simp; omega, by simp [Value.ownBlock]; omega⟩)).trans ((kk1.mono (fun k h => by have := k1.size; simp at this; omega)).trans (k2.mono (fun k h => ⟨by have := k1.size; have := kk1.size; simp at *; omega, fun h' => by
      rcases o1 k h' with h2 | h2
      · simp [Value.ownBlock] at h2; omega
      · simp at h2; omega⟩))))
    have HF := hid (show Marked w2 w.heap.size (.slice (some ⟨g, 0, none⟩) xs.length cp) xs from ⟨g, cp, cur, rfl, hB, hg, by simpa using hgs, by have := HC.out; omega, hgm, by rw [HC.out, ints_append]; simpa using hgt⟩)
    have HK := hid K1
    clear r2 k2 o2 r1 k1 o1 hb1 kk1 HB hg hgl hgm hgs hgt hlen K1 hB HA
    go_wp2_with fail
    go_ret
    exact ⟨_, rfl, HK.out, HF.out⟩

theorem Marked.keep {w w' : World} {p : Nat → Prop} {B : Nat} {v : Value} {xs : List Nat} (h : Marked w B v xs) (k : Keep p w w') (hp : ∀ j, B ≤ j → j < w.heap.size → p j) : Marked w' B v xs := by
  obtain ⟨g, cap, cur, rfl, h1, h2, h3⟩ := h
  exact ⟨g, cap, cur, rfl, h1, (k.block g (hp g h1 (Array.getElem?_eq_some_iff.1 h2).1)).trans h2, h3⟩
theorem Marked.cells {w : World} {B : Nat} {v : Value} {xs : List Nat} (h : Marked w B v xs) : Cells w (fun k => B ≤ k) v (ints .u8 xs) := by
  obtain ⟨g, cap, cur, rfl, h1, h2, h3, h4, h5, h6⟩ := h
  have := Cells.of_block (w := w) (b := g) (off := 0) (n := xs.length) (cap := cap) (cur := cur.toList) (p := fun k => B ≤ k) (T := 5) (fr := (0, 0)) (by simpa using h2) h1 (by simp; omega) (by omega) h5
  rw [List.drop_zero] at this
  have e : cur.toList.take xs.length = ints .u8 xs := by
    have e1 : cur.toList.take xs.length = (cur.toList.take (xs.length + 6)).take xs.length := by rw [List.take_take, Nat.min_eq_left (by omega)]
    rw [e1, h6, ints_append, List.take_append_of_le_length (by rw [ints_length]; exact Nat.le_refl _), List.take_of_length_le (by rw [ints_length]; exact Nat.le_refl _)]
  rwa [e] at this

theorem drewN_keep' (w : World) (m : Nat) : Keep (fun _ => True) w (w.drewN m) := (Keep.refl _ _).drewN m
set_option maxRecDepth 100000 in
set_option maxHeartbeats 1000000 in
theorem kept_walk (B : Nat) (u v : Value) (xs : List Nat) (w : World) (p : Nat → Prop) (hl : xs.length ≤ 1099511627776) (hu : Marked w B u xs) (hv : Cells w p v (ints .u8 xs)) :
    Calls Tryd.prog 25 #[u, v] w fun e w' => e = .returned (.bool true) ∧ Keep (fun _ => True) w w' := by
  have hc := hu.cells
  obtain ⟨g, cap, cur, rfl, h1, h2, h3, h4, h5, h6⟩ := hu
  have hv' := hv
  obtain ⟨a1, n1, c1, rfl, e1, m1, q1, _⟩ := hv
  rw [ints_length] at e1
  subst e1
  have q1' : c1 ≤ 9223372036854775807 := by simpa [maxLen] using q1
  have hcap : cap ≤ 9223372036854775807 := by simpa [maxLen] using h5
  have hi1 : xs.length ≤ cap := by omega
  have t1 : decide ((cap : Int) < (xs.length : Int) + 6) = false := by simp; omega
  have i1 : (xs.length : Int) ≤ (cap : Int) := by omega
  have cv1 := fun m => convert_bytes (P := Tryd.prog) 32 5 9 Tryd.underlying32 Tryd.underlying5 Tryd.underlying9 (w.drewN m) (hc.keep ((Keep.refl _ w).drewN m) (fun _ h => h))
  have cv2 := fun m => convert_bytes (P := Tryd.prog) 32 5 9 Tryd.underlying32 Tryd.underlying5 Tryd.underlying9 (w.drewN m) (hv'.keep ((Keep.refl _ w).drewN m) (fun _ h => h))
  have hcell : ∀ i, i < 6 → w.cell? ⟨g, xs.length + i, none⟩ = some (.int .u8 ((201 + i : Nat) : Int)) := by
    intro i hi
    have e0 : w.cell? ⟨g, xs.length + i, none⟩ = cur.toList[xs.length + i]? := by simp [World.cell?, h2]
    have e1 : cur.toList[xs.length + i]? = (cur.toList.take (xs.length + 6))[xs.length + i]? := by rw [List.getElem?_take, if_pos (by omega)]
    rw [e0, e1, h6, ints_get _ _ _ (by rw [List.length_append]; simp [marks6]; omega)]
    congr 3
    rw [List.getD_eq_getElem?_getD, List.getElem?_append_right (by omega), Nat.add_sub_cancel_left]
    have h7 : i = 0 ∨ i = 1 ∨ i = 2 ∨ i = 3 ∨ i = 4 ∨ i = 5 := by omega
    rcases h7 with rfl | rfl | rfl | rfl | rfl | rfl <;> rfl
  have HCL := hid hcell
  have HV := hid (And.intro h2 (And.intro h3 h6))
  clear hc hv' h2 h3 h5 h6 q1 hcell
  go_enter Tryd.func25, Tryd.ntmps25
  go_wp2_with fail
  go_quiet (fail)
  clear cv1 cv2
  go_wp2_with fail
  refine wp_world (fun wx => Keep (fun _ => True) w wx) (drewN_keep' w _) ?_
  rintro w2 k2
  have K2 := hid k2
  clear k2
  go_loopg [6] 6 (fun k s6 wr => ∃ i, i + k = 6 ∧ s6 = .int .i64 (i : Int) ∧ wr = w2)
  case atStart => exact ⟨0, rfl, rfl, rfl⟩
  case round =>
    obtain ⟨i, hi, rfl, rfl⟩ := hrel
    by_cases hi6 : i < 6
    · obtain ⟨m, hm⟩ : ∃ m, 201 + i = m := ⟨_, rfl⟩
      obtain ⟨j, hj⟩ : ∃ j, xs.length + i = j := ⟨_, rfl⟩
      have cx : wr.cell? ⟨g, j, none⟩ = some (.int .u8 (m : Int)) := by
        rw [← hj, ← hm, K2.out.cell (x := ⟨g, xs.length + i, none⟩) trivial]; exact HCL.out i hi6
      have em : (201 : Int) + (i : Int) = (m : Int) := by omega
      have ej : (xs.length : Int) + (i : Int) = (j : Int) := by omega
      have m256 : m < 256 := by omega
      have mw : (m : Int) % 256 = (m : Int) := by omega
      have jc : (j : Int) < (cap : Int) := by omega
      have l0 : (i : Int) < 6 := by omega
      clear hm hj
      go_wp2_with fail
      go_roundg (gk - 1)
      case measure => omega
      case rel => exact ⟨i + 1, by omega, by go_num, rfl⟩
    · obtain rfl : i = 6 := by omega
      go_wp2_with fail
      go_ret
      exact ⟨rfl, K2.out⟩
end Go.Proofs.YtnpneippahdigaaDoor
