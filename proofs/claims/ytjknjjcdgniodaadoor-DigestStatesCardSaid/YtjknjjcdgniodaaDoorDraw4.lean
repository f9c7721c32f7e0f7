/-
  Step by step: 'Words' of package draw.
-/
import Derived.Test.YtjknjjcdgniodaaDoorDraw3
namespace Go.Proofs.YtjknjjcdgniodaaDoor
open Go.RowKit Go.Proofs.Mem

/-- words by their numbers, from a number on. -/
def wordsN (root : List Nat) (fr c : Nat) : List Nat := (List.range c).map fun i => Drw.wordN root (fr + i)
theorem wordsN_length (root : List Nat) (fr c : Nat) : (wordsN root fr c).length = c := by simp [wordsN]
def wordsTo (root : List Nat) (fr c i : Nat) : List Nat := wordsN root fr i ++ List.replicate (c - i) 0
theorem wordsTo_0 (root : List Nat) (fr c : Nat) : wordsTo root fr c 0 = List.replicate c 0 := by simp [wordsTo, wordsN]
theorem wordsTo_c (root : List Nat) (fr c : Nat) : wordsTo root fr c c = wordsN root fr c := by simp [wordsTo]
theorem wordsTo_length (root : List Nat) (fr c i : Nat) (h : i ≤ c) : (wordsTo root fr c i).length = c := by simp [wordsTo, wordsN_length]; omega
theorem wordsTo_set (root : List Nat) (fr c i : Nat) (h : i < c) : (wordsTo root fr c i).set i (Drw.wordN root (fr + i)) = wordsTo root fr c (i + 1) := by
  unfold wordsTo
  rw [List.set_append_right _ _ (by rw [wordsN_length]; omega), wordsN_length, Nat.sub_self, show c - i = (c - (i + 1)) + 1 by omega, List.replicate_succ, List.set_cons_zero]
  unfold wordsN
  rw [List.range_succ, List.map_append, List.append_assoc]
  rfl

set_option maxRecDepth 100000 in
set_option maxHeartbeats 2000000 in
theorem dwords_walk (v : Value) (xs : List Nat) (fr c : Nat) (w : World) (p : Nat → Prop) (hx : ∀ x ∈ xs, x < 256) (hn : xs.length < 1152921504606846976) (hf : fr ≤ 1099511627776) (hc : c ≤ 4096) (hT : TurnsAt w) (hv : Cells w p v (ints .u8 xs)) :
    Calls Tryd.prog 36 #[v, .int .i64 (fr : Int), .int .i64 (c : Int)] w fun e w' => ∃ u, e = .returned (.tuple #[u, .nilIface]) ∧ Keep (· < w.heap.size) w w' ∧ Cells w' (fun k => w.heap.size ≤ k) u (ints .u64 (wordsN (Sha.of xs) fr c)) := by
  have HC := hid (open_walk v xs w p hx hn hT hv)
  have HT := hid hT
  clear hv hT
  have t1 : decide ((fr : Int) < 0) = false := by simp
  have t2 : decide ((1099511627776 : Int) < (fr : Int)) = false := by simp; omega
  have t3 : decide ((c : Int) < 0) = false := by simp
  have t4 : decide ((4096 : Int) < (c : Int)) = false := by simp; omega
  go_enter Tryd.func36, Tryd.ntmps36
  go_wp2_with fail
  refine HC.out.mono ?_
  rintro e w1 ⟨rfl, k1⟩
  obtain ⟨F, hF⟩ : ∃ F, Sha.of xs = F := ⟨_, rfl⟩
  have hFl : F.length = 32 := by rw [← hF]; exact of_length hx
  have hFb : ∀ x ∈ F, x < 256 := by rw [← hF]; exact of_lt
  rw [hF]
  have hi := size_stream hFl zeros32_length (-1)
  have H1 := hid (And.intro k1 hF)
  have hz0 := zeros32_length
  have hold : Tryd.zeroCells95.size = (strC F zeros32 (-1) []).toArray.size := (show _ = 65 by kernel_rfl : Tryd.zeroCells95.size = 65).trans (by rw [List.size_toArray, strC_length hFl zeros32_length]; rfl)
  have h1 := strC_one F zeros32 (-1) [] (by simp)
  have z1 := k1.size
  have HFB := hid hFb
  have HFL := hid hFl
  obtain ⟨i0, hi0, hz0', hs0, hb0⟩ := info_parts (show (Tryd.prog.info? 56).map (fun i => (i.zero, i.size, i.bytes)) = some (some (.int .u64 0), 1, 8) by kernel_rfl)
  have mk : ∀ w0 : World, (Instr.makeSlice 59 (.int .i64 (c : Int)) (.int .i64 (c : Int))).run Tryd.prog w0 = .ok (.slice (some ⟨w0.heap.size, 0, none⟩) c c) (w0.alloc (.cells (ints .u64 (wordsTo F fr c 0)).toArray 56)) := fun w0 => by
    rw [wordsTo_0]; exact make_ints (P := Tryd.prog) 59 56 i0 .u64 8 Tryd.underlying59 hi0 hz0' hs0 hb0 c c (Nat.le_refl _) (by omega) (by omega) w0
  clear k1 HC hF hFb hi0 hz0' hs0 hb0
  go_upto_region 3 with (first | (refine wpList_store_row rfl 95 (.tmp 8) (.tmp 27) rfl w1.heap.size (strC F zeros32 (-1) []).toArray rfl rfl 95 _ (heap_alloc_new w1 _) hi hold h1 ?_))
  have k0 : Keep (fun k => k < w1.heap.size) w1 ((w1.alloc (.cells Tryd.zeroCells95 95)).setRow w1.heap.size (strC F zeros32 (-1) []).toArray) := ((Keep.refl _ _).alloc _ (fun _ h => h)).setRow _ (by simp)
  refine wp_world (fun w2 => Keep (fun k => k < w1.heap.size) w1 w2 ∧ StreamAt w2 95 w1.heap.size F [] ∧ w2.heap[w1.heap.size + 1]? = some (.cells (ints .u64 (wordsTo F fr c 0)).toArray 56 (0, 0))) ⟨k0.alloc _ (fun k h => by simp; omega), ⟨zeros32, -1, ?_, zeros32_length, .inl rfl⟩, ?_⟩ ?_
  · exact (Below.heap_alloc _ _ _ (by simp)).trans (heap_setRow (heap_alloc_new w1 _) _)
  · have := heap_alloc_new ((w1.alloc (.cells Tryd.zeroCells95 95)).setRow w1.heap.size (strC F zeros32 (-1) []).toArray) (.cells (ints .u64 (wordsTo F fr c 0)).toArray 56 (0, 0))
    simpa using this
  rintro w2 ⟨k2, hs2, ho2⟩
  obtain ⟨sb, hsb⟩ : ∃ sb, w1.heap.size = sb := ⟨_, rfl⟩
  rw [hsb] at k2 hs2 ho2 z1 ⊢
  have H2 := hid (And.intro (H1.out.1.trans (k2.mono (fun k h => by omega))) (And.intro hs2 ho2))
  have HF2 := hid H1.out.2
  have hgs : 17 < sb := by rw [← hsb]; exact (HT.out.keep H1.out.1 HT.out.lt).lt
  have z2 : sb < w2.heap.size := hs2.lt
  clear k2 hs2 ho2 k0 H1 mk hold hsb
  go_loopg [32] c (fun k s32 wr => ∃ i : Nat, i + k = c ∧ s32 = .int .i64 (i : Int) ∧ wr.heap[sb + 1]? = some (.cells (ints .u64 (wordsTo F fr c i)).toArray 56 (0, 0)) ∧ StreamAt wr 95 sb F [] ∧ Keep (· < w.heap.size) w wr)
  case atStart => exact ⟨0, by omega, rfl, H2.out.2.2, H2.out.2.1, H2.out.1⟩
  case round =>
    obtain ⟨i, hi, rfl, ho, hs, hk⟩ := hrel
    by_cases hic : i < c
    · have HH := hid (And.intro ho (And.intro hs hk))
      have l0 : (i : Int) < (c : Int) := by omega
      have e1 : (fr : Int) + (i : Int) = ((fr + i : Nat) : Int) := by omega
      obtain ⟨q, hq⟩ : ∃ q, fr + i = q := ⟨_, rfl⟩
      rw [hq] at e1
      have HQ := hid hq
      have hql : q ≤ 1099511631872 := by omega
      have hzo : sb + 1 < wr.heap.size := (Array.getElem?_eq_some_iff.1 ho).1
      clear ho hs hk hq
      go_wp2_with fail
      have hwz := HH.out.2.2.size
      refine (word_walk 95 sb F [] q wr HFL.out HFB.out (by omega) (HT.out.keep HH.out.2.2 HT.out.lt) HH.out.2.1 (by omega) (by simp)).mono ?_
      rintro e w3 ⟨rfl, k3, h3⟩
      have ho3 := (k3.block (sb + 1) (by omega)).trans HH.out.1
      have cf := frozen_at ho3 i
      obtain ⟨old, co⟩ : ∃ v, w3.cell? ⟨sb + 1, i, none⟩ = some v := ⟨_, by rw [cell_at ho3, ints_get _ _ _ (by rw [wordsTo_length _ _ _ _ (by omega)]; omega)]⟩
      have H3 := hid (And.intro ho3 (And.intro h3 (HH.out.2.2.trans (k3.mono (fun k h => by omega)))))
      clear ho3 h3 k3
      go_wp2_with fail
      go_roundg (gk - 1)
      case measure => omega
      case rel =>
        refine ⟨i + 1, by omega, by go_num, ?_, H3.out.2.1.keep ((Keep.refl (fun k => k ≠ sb + 1) _).setCell _ (by simp)) (by omega), H3.out.2.2.setCell _ (by show ¬ sb + 1 < w.heap.size; omega)⟩
        rw [set_at H3.out.1, ← wordsTo_set F fr c i hic, HQ.out]
        exact congrArg (fun l : List Value => some (Obj.cells l.toArray _ _)) (ints_set .u64 (wordsTo F fr c i) i _)
    · obtain rfl : i = c := by omega
      rw [wordsTo_c] at ho
      have HH := hid (And.intro ho hk)
      clear ho hs hk
      go_wp2_with fail
      go_ret2
      refine ⟨_, rfl, HH.out.2, ?_⟩
      rw [HF2.out]
      have := Cells.of_block (w := wr) (b := sb + 1) (off := 0) (n := i) (cap := i) (cur := ints .u64 (wordsN F fr i)) (p := fun k => w.heap.size ≤ k) HH.out.1 (by omega) (by rw [ints_length, wordsN_length]; omega) (Nat.le_refl _) (by unfold maxLen; omega)
      rwa [List.drop_zero, List.take_of_length_le (by rw [ints_length, wordsN_length]; exact Nat.le_refl _)] at this
end Go.Proofs.YtjknjjcdgniodaaDoor
