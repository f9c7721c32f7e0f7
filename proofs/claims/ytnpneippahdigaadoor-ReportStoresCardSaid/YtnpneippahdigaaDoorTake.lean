/-
  Step by step: 'Take' of package digest: a state takes bytes.
-/
import Derived.Test.YtnpneippahdigaaDoorMixA
namespace Go.Proofs.YtnpneippahdigaaDoor
open Go.RowKit Go.Proofs.Mem

/-- a state whose words and bytes are such. -/
def Good (s : Sha.St) : Prop := s.ws.length = 8 ∧ s.left.length = 64 ∧ (∀ i, s.ws.getD i 0 < 4294967296) ∧ (∀ i, s.left.getD i 0 < 256)
def stC (s : Sha.St) : List Value := stCells s.ws s.left s.n
/-- block b is the state s. -/
def StAt (w : World) (b : Nat) (s : Sha.St) : Prop := w.heap[b]? = some (.cells (stC s).toArray 190 (0, 0))

theorem put_good {s : Sha.St} (h : Good s) {x : Nat} (hx : x < 256) : Good (s.put x) := by
  obtain ⟨h1, h2, h3, h4⟩ := h
  refine ⟨?_, by simpa [Sha.St.put] using h2, ?_, lt_set h4 hx⟩
  · simp only [Sha.St.put]; split
    · rw [mix_length]; exact h1
    · exact h1
  · simp only [Sha.St.put]; split
    · exact mix_lt _ _ h3
    · exact h3
theorem take_good {s : Sha.St} (h : Good s) {xs : List Nat} (hx : ∀ x ∈ xs, x < 256) : Good (s.take xs) := by
  induction xs generalizing s with
  | nil => exact h
  | cons x xs ih => exact ih (put_good h (hx x (by simp))) (fun y hy => hx y (by simp [hy]))
theorem new_good : Good Sha.St.new := by
  refine ⟨by decide, by decide, fun i => ?_, fun i => ?_⟩
  · by_cases h : i < 8
    · have : ∀ j, j < 8 → Sha.St.new.ws.getD j 0 < 4294967296 := by decide
      exact this i h
    · have e8 : Sha.St.new.ws.length = 8 := by decide
      have : Sha.St.new.ws.length ≤ i := by omega
      rw [List.getD_eq_getElem?_getD, List.getElem?_eq_none this]; decide
  · simp only [Sha.St.new, List.getD_eq_getElem?_getD, List.getElem?_replicate]
    split <;> decide
theorem stC_length {s : Sha.St} (h : Good s) : (stC s).length = 73 := by
  simp [stC, stCells, ints, h.1, h.2.1]
theorem st_lay {ws left : List Nat} {n at' : Nat} (hw : ws.length = 8) (hl : left.length = 64) (ys : List Nat) (k : Nat) (hat : at' + k ≤ 64) :
    (stCells ws left n).take (8 + at') ++ ((ints .u8 ys).take k ++ (stCells ws left n).drop (8 + at' + k)) = stCells ws (left.take at' ++ (ys.take k ++ left.drop (at' + k))) n := by
  unfold stCells
  have e1 : (ints .u8 ys).take k = ints .u8 (ys.take k) := by simp [ints]
  have e2 : (ints .u32 ws ++ (ints .u8 left ++ [Value.int .u64 (Int.ofNat n)])).take (8 + at') = ints .u32 ws ++ ints .u8 (left.take at') := by
    rw [List.take_append, ints_length, hw, List.take_of_length_le (by rw [ints_length]; omega), Nat.add_sub_cancel_left, List.take_append_of_le_length (by rw [ints_length]; omega)]
    simp [ints]
  have e3 : (ints .u32 ws ++ (ints .u8 left ++ [Value.int .u64 (Int.ofNat n)])).drop (8 + at' + k) = ints .u8 (left.drop (at' + k)) ++ [Value.int .u64 (Int.ofNat n)] := by
    rw [List.drop_append, ints_length, hw, List.drop_of_length_le (by rw [ints_length]; omega), Nat.add_assoc, Nat.add_sub_cancel_left, List.drop_append_of_le_length (by rw [ints_length]; omega)]
    simp [ints]
  rw [e1, e2, e3, ints_append, ints_append]
  simp only [List.append_assoc]

theorem st_setn {ws left : List Nat} {n k : Nat} (hw : ws.length = 8) (hl : left.length = 64) : (stCells ws left n).set 72 (.int .u64 ((n : Int) + (k : Int))) = stCells ws left (n + k) := by
  unfold stCells
  rw [List.set_append_right _ _ (by rw [ints_length]; omega), List.set_append_right _ _ (by rw [ints_length, ints_length]; omega), ints_length, ints_length, hw, hl]
  rfl
theorem lay_lt {l ys L : List Nat} {i k j : Nat} (e : l.take i ++ (ys.take k ++ l.drop j) = L) (h : ∀ i, l.getD i 0 < 256) (hy : ∀ x ∈ ys, x < 256) : ∀ i, L.getD i 0 < 256 := by
  have hall : ∀ x ∈ L, x < 256 := by
    have hl : ∀ x ∈ l, x < 256 := by
      intro x hx
      obtain ⟨m, hm, rfl⟩ := List.getElem_of_mem hx
      have := h m
      rwa [List.getD_eq_getElem?_getD, List.getElem?_eq_getElem hm] at this
    intro x hx
    rw [← e, List.mem_append, List.mem_append] at hx
    rcases hx with hx | hx | hx
    · exact hl x (List.mem_of_mem_take hx)
    · exact hy x (List.mem_of_mem_take hx)
    · exact hl x (List.mem_of_mem_drop hx)
  intro m
  rw [List.getD_eq_getElem?_getD]
  cases hm : L[m]? with
  | none => decide
  | some x => exact hall x (List.mem_of_getElem? hm)

set_option maxRecDepth 100000 in
set_option maxHeartbeats 1000000 in
theorem take_walk (b : Nat) (s : Sha.St) (v : Value) (xs : List Nat) (w : World) (hg : Good s) (hn : s.n + xs.length < 4611686018427387904) (hx : ∀ x ∈ xs, x < 256) (hT : TurnsAt w) (hb : StAt w b s) (hv : Cells w (· ≠ b) v (ints .u8 xs)) :
    Calls Tryd.prog 100 #[.pointer (some ⟨b, 0, none⟩), v] w fun e w' => e = .returned (.pointer (some ⟨b, 0, none⟩)) ∧ Keep (fun k => k < w.heap.size ∧ k ≠ b) w w' ∧ StAt w' b (s.take xs) := by
  have hbs : b < w.heap.size := (Array.getElem?_eq_some_iff.1 hb).1
  have hgb : 17 ≠ b := turns_ne hT hb hg.1 hg.2.1
  have Hv := hid hv.lt
  have Hb := hid hb
  have HT := hid hT
  have HG := hid hg
  have HX := hid hx
  clear hv hb hT hg hx
  go_enter Tryd.func100, Tryd.ntmps100
  go_wp2_with fail
  go_loopg [1] xs.length (fun k s1 wr => ∃ zs ys : List Nat, zs ++ ys = xs ∧ k = ys.length ∧ Cells wr (fun k => k < w.heap.size ∧ k ≠ b) s1 (ints .u8 ys) ∧ StAt wr b (s.take zs) ∧ Keep (fun k => k < w.heap.size ∧ k ≠ b) w wr)
  case atStart => exact ⟨[], xs, rfl, rfl, Hv.out, Hb.out, Keep.refl _ _⟩
  case round =>
    obtain ⟨zs, ys, hzy, rfl, hc, hs, hK⟩ := hrel
    have HZ := hid hzy
    clear hzy
    by_cases h0 : 0 < ys.length
    · have hg' : Good (s.take zs) := take_good HG.out (fun x hx => HX.out x (by rw [← HZ.out]; simp [hx]))
      have hy' : ∀ x ∈ ys, x < 256 := fun x hx => HX.out x (by rw [← HZ.out]; simp [hx])
      have hn' : (s.take zs).n + ys.length < 4611686018427387904 := by
        rw [Sha.take_n]; have := congrArg List.length HZ.out; rw [List.length_append] at this; omega
      obtain ⟨t, ht⟩ : ∃ t, s.take zs = t := ⟨_, rfl⟩
      rw [ht] at hg' hn' hs
      obtain ⟨blk, off, cap, rfl, hle, hcap, ⟨hblk, hne⟩, hcell⟩ := hc.at_ (by rw [ints_length]; exact h0)
      have HC := hid hc
      have HCell := hid hcell
      clear hc hcell
      rw [ints_length] at hle
      have el : (ints .u8 ys).length = ys.length := ints_length _ _
      rw [el]
      have hlen : ys.length ≤ 4611686018427387904 := by omega
      obtain ⟨at', hat⟩ : ∃ m, t.n % 64 = m := ⟨_, rfl⟩
      have hat1 : at' < 64 := by omega
      have c72 : wr.cell? ⟨b, 72, none⟩ = some (.int .u64 (t.n : Int)) := by rw [cell_at hs]; exact st_num hg'.1 hg'.2.1
      have hn2 : t.n < 4611686018427387904 := by omega
      have r1 : (t.n : Int) % 64 = (at' : Int) := by omega
      obtain ⟨k, hk⟩ : ∃ k, k = Nat.min ys.length (64 - at') := ⟨_, rfl⟩
      have cp := copy_into (P := Tryd.prog) 32 5 Tryd.underlying32 (by kernel_rfl) wr 3 (dc := 64 - at') hs HC.out k (by rw [hk, el]) (by rw [stC_length hg']; omega : 8 + at' + (64 - at') ≤ _) (ints_one _ _)
      rw [el] at cp
      have hk1 : k ≤ ys.length := by rw [hk]; exact Nat.min_le_left _ _
      have hk2 : k ≤ 64 - at' := by rw [hk]; exact Nat.min_le_right _ _
      have hk0 : 0 < k := by rw [hk]; show 0 < min ys.length (64 - at'); omega
      obtain ⟨L, hL⟩ : ∃ L, t.left.take at' ++ (ys.take k ++ t.left.drop (at' + k)) = L := ⟨_, rfl⟩
      have hLl : L.length = 64 := by rw [← hL]; simp only [List.length_append, List.length_take, List.length_drop, hg'.2.1]; omega
      obtain ⟨w1, hw1⟩ : ∃ w1, w1 = wr.setRow b ((stC t).take (8 + at') ++ ((ints .u8 ys).take k ++ (stC t).drop (8 + at' + k))).toArray := ⟨_, rfl⟩
      rw [← hw1] at cp
      have hs1 : w1.heap[b]? = some (.cells (stCells t.ws L t.n).toArray 190 (0, 0)) := by
        rw [hw1, heap_setRow hs]; unfold stC; rw [st_lay hg'.1 hg'.2.1 ys k (by omega), hL]
      have hK1 : Keep (fun k => k < w.heap.size ∧ k ≠ b) wr w1 := by rw [hw1]; exact (Keep.refl _ _).setRow _ (by simp)
      clear hw1
      obtain ⟨v', hv', hcv⟩ := slice_from (P := Tryd.prog) 32 5 Tryd.underlying32 (by kernel_rfl) w1 (HC.out.keep hK1 (fun _ h => h)) k (by rw [el]; exact hk1)
      rw [el] at hv'
      have c72b : w1.cell? ⟨b, 72, none⟩ = some (.int .u64 (t.n : Int)) := by rw [cell_at hs1]; exact st_num hg'.1 hLl
      have f72b := frozen_at hs1 72
      have q1 : (at' : Int) ≤ 64 := by omega
      have q2 : ¬ 64 = at' := by omega
      have q3 : (t.n : Int) + (k : Int) < 18446744073709551616 := by omega
      have HE := hid (And.intro hat (And.intro hk hL))
      have HS1 := hid hs1
      have HCV := hid hcv
      have HS := hid hs
      clear hat hk hL hs1 hcv hs el
      by_cases hf : at' + k = 64
      · have hb1 : (((at' : Int) + (k : Int)) == 64) = true := by simp; omega
        have HF := hid hf
        clear hf
        go_wp2_with fail
        refine wp_world (fun w2 => w2.heap[b]? = some (.cells (stCells t.ws L (t.n + k)).toArray 190 (0, 0)) ∧ Keep (fun k => k < w.heap.size ∧ k ≠ b) w1 w2) ⟨?_, (Keep.refl _ _).setCell _ (by simp)⟩ ?_
        · rw [set_at HS1.out]
          exact congrArg (fun l : List Value => some (Obj.cells l.toArray _ _)) (st_setn hg'.1 hLl)
        intro w2 hw2
        obtain ⟨h2, hK2⟩ := hw2
        have hK3 : Keep (fun k => k < w.heap.size ∧ k ≠ b) w w2 := (hK.trans hK1).trans hK2
        have hT2 : TurnsAt w2 := HT.out.keep hK3 ⟨HT.out.lt, hgb⟩
        have hLb : ∀ i, L.getD i 0 < 256 := lay_lt HE.out.2.2 hg'.2.2.2 hy'
        have HC2 := hid (HCV.out.keep hK2 (fun _ h => h))
        have HP := hid (mix_walk b t.ws L (t.n + k) · hg'.1 hLl hLb hg'.2.2.1)
        have H2 := hid (And.intro h2 (And.intro hK3 hT2))
        clear cp hv' c72b f72b hK hK1 hK2 hK3 h2 hT2 hLb c72
        refine Go.Proofs.Tail.wp_region_quiet_tail 6 (by kernel_rfl) (by kernel_rfl) ?_
        simp only [List.take_succ_cons, List.take_zero, List.drop_succ_cons, List.drop_zero]
        repeat (quiet_step (fail))
        refine wpQuiet_nil ?_
        intro w3 hw3
        obtain ⟨m, rfl⟩ := hw3
        go_wp2_with (go_at_call 109; refine (HP.out (w2.drewN m) H2.out.2.2 H2.out.1).mono ?_; rintro e w4 ⟨rfl, hK4, h4⟩)
        go_roundg (ys.drop k).length
        case measure => rw [List.length_drop]; omega
        case rel =>
          have hs2 : w.heap.size ≤ (w2.drewN m).heap.size := H2.out.2.1.size
          refine ⟨zs ++ ys.take k, ys.drop k, by rw [List.append_assoc, List.take_append_drop]; exact HZ.out, rfl, ?_, ?_, (H2.out.2.1.drewN m).trans (hK4.mono (fun j hj => ⟨Nat.lt_of_lt_of_le hj.1 hs2, hj.2⟩))⟩
          · have := (HC2.out.keep ((Keep.refl _ _).drewN m) (fun _ h => h)).keep hK4 (fun j hj => ⟨Nat.lt_of_lt_of_le hj.1 hs2, hj.2⟩)
            rwa [show (ints .u8 ys).drop k = ints .u8 (ys.drop k) by simp [ints]] at this
          · show w4.heap[b]? = _
            rw [h4, Sha.take_append, ht]
            have := Sha.take_chunk t hg'.2.1 (ys.take k) (by rw [List.length_take]; omega) (by rw [List.length_take, HE.out.1]; omega)
            rw [this, List.length_take, Nat.min_eq_left hk1, HE.out.1, if_pos HF.out, HE.out.2.2]
            rfl
      · have hb1 : (((at' : Int) + (k : Int)) == 64) = false := by simp; omega
        have HF := hid hf
        clear hf
        go_wp2_with fail
        go_roundg (ys.drop k).length
        case measure => rw [List.length_drop]; omega
        case rel =>
          have hK2 : Keep (fun k => k < w.heap.size ∧ k ≠ b) w1 (w1.setCell ⟨b, 72, none⟩ (Value.int .u64 ((t.n : Int) + (k : Int)))) := (Keep.refl _ _).setCell _ (by simp)
          refine ⟨zs ++ ys.take k, ys.drop k, by rw [List.append_assoc, List.take_append_drop]; exact HZ.out, rfl, ?_, ?_, (hK.trans hK1).trans hK2⟩
          · have := HCV.out.keep hK2 (fun _ h => h)
            rwa [show (ints .u8 ys).drop k = ints .u8 (ys.drop k) by simp [ints]] at this
          · unfold StAt
            rw [set_at HS1.out, Sha.take_append, ht]
            have := Sha.take_chunk t hg'.2.1 (ys.take k) (by rw [List.length_take]; omega) (by rw [List.length_take, HE.out.1]; omega)
            rw [this, List.length_take, Nat.min_eq_left hk1, HE.out.1, if_neg HF.out, HE.out.2.2]
            exact congrArg (fun l : List Value => some (Obj.cells l.toArray _ _)) (st_setn hg'.1 hLl)
    · obtain rfl : ys = [] := List.eq_nil_of_length_eq_zero (by omega)
      obtain ⟨a, len, cap, rfl, hl, _, _, _⟩ := hc
      obtain rfl : len = 0 := hl
      go_wp2_with fail
      go_ret
      refine ⟨rfl, hK, ?_⟩
      rw [← HZ.out, List.append_nil]
      exact hs
end Go.Proofs.YtnpneippahdigaaDoor
