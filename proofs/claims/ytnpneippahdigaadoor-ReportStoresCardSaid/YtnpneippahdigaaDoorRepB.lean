/-
  Step by step: 'put' of package report.
-/
import Derived.Test.YtnpneippahdigaaDoorRepA
import Derived.Test.YtnpneippahdigaaDoorWireB
import Derived.Test.YtnpneippahdigaaDoorTxt4
namespace Go.Proofs.Rp
theorem num_get (u k : Nat) : ∀ j, j < k → (num u k)[j]? = some (u / 256 ^ (k - 1 - j) % 256) := by
  induction k with
  | zero => intro j hj; omega
  | succ k ih =>
    intro j hj
    cases j with
    | zero => simp [num]
    | succ j =>
      rw [num, List.getElem?_cons_succ, ih j (by omega)]
      congr 4
      omega
theorem num_take (u k j : Nat) (hj : j < k) : (num u k).take (j + 1) = (num u k).take j ++ [u / 256 ^ (k - 1 - j) % 256] := by
  have hl : j < (num u k).length := by rw [num_length]; exact hj
  rw [List.take_succ_eq_append_getElem hl]
  have := num_get u k j hj
  rw [List.getElem?_eq_getElem hl] at this
  rw [Option.some.inj this]
theorem nums_take (k : Nat) (l : List Int) (m : Nat) (h : m < l.length) : nums k (l.take (m + 1)) = nums k (l.take m) ++ num (Wr.u64 l[m]) k := by
  unfold nums
  rw [List.take_succ_eq_append_getElem h, List.flatMap_append]
  simp only [List.flatMap_cons, List.flatMap_nil, List.append_nil]
theorem nums_length (k : Nat) (l : List Int) : (nums k l).length = k * l.length := by
  induction l with
  | nil => rfl
  | cons n l ih =>
    have : nums k (n :: l) = num (Wr.u64 n) k ++ nums k l := rfl
    rw [this, List.length_append, num_length, ih, List.length_cons, Nat.mul_add]; omega
end Go.Proofs.Rp
namespace Go.Proofs.YtnpneippahdigaaDoor
open Go.RowKit Go.Proofs.Mem Go.Proofs.Txt

/-- a row made whole by 'buildSlice'. -/
theorem made_cells (w : World) (T : TypeId) (p : Nat → Prop) (cs : List Value) (hp : p w.heap.size) (hl : cs.length ≤ 1000) : Cells (w.alloc (.cells cs.toArray T)) p (.slice (some ⟨w.heap.size, 0, none⟩) cs.length cs.length) cs := by
  have := Cells.of_block (w := w.alloc (.cells cs.toArray T)) (b := w.heap.size) (off := 0) (n := cs.length) (cap := cs.length) (cur := cs) (p := p) (heap_alloc_new w _) hp (by omega) (Nat.le_refl _) (by unfold maxLen; omega)
  simpa using this
/-- a row that has grown out of v0 since w0. -/
structure Grow (w0 : World) (v0 : Value) (w : World) (v : Value) (cs : List Nat) : Prop where
  row : Row w 5 v (ints .u8 cs)
  keep : Keep (fun b => b < w0.heap.size ∧ v0.ownBlock ≠ some b) w0 w
  own : ∀ b, v.ownBlock = some b → v0.ownBlock = some b ∨ w0.heap.size ≤ b
theorem Grow.refl {w : World} {v : Value} {cs : List Nat} (h : Row w 5 v (ints .u8 cs)) : Grow w v w v cs := ⟨h, Keep.refl _ _, fun _ hb => .inl hb⟩
theorem Grow.next {w0 w w' : World} {v0 v : Value} {cs : List Nat} (h : Grow w0 v0 w v cs) (k : Keep (· < w.heap.size) w w') : Grow w0 v0 w' v cs :=
  ⟨h.row.keep k (fun _ hb => h.row.lt hb), h.keep.trans (k.mono (fun _ hb => Nat.lt_of_lt_of_le hb.1 h.keep.size)), h.own⟩
theorem Grow.app {w0 w : World} {v0 v : Value} {cs : List Nat} (h : Grow w0 v0 w v cs) (ty : TypeId) (u : Value) (news : List Nat) {p : Nat → Prop} (hu : Cells w p u (ints .u8 news)) (hb : cs.length + news.length ≤ 140737488355328) :
    ∃ v' w', (Builtin.append_ #[32, 32] ty #[v, u]).run Tryd.prog w = .ok v' w' ∧ Grow w0 v0 w' v' (cs ++ news) := by
  obtain ⟨v', w', hr, r, k, o⟩ := u8_append_at w ty v u _ _ h.row hu (ints_one _ _) (by rw [ints_length, ints_length]; exact hb)
  have z := h.keep.size
  refine ⟨v', w', hr, by rw [ints_append]; exact r, h.keep.trans (k.mono (fun b hb => ⟨Nat.lt_of_lt_of_le hb.1 z, fun h' => ?_⟩)), fun b hb => ?_⟩
  · rcases h.own b h' with h1 | h1
    · exact hb.2 h1
    · omega
  · rcases o b hb with h' | h'
    · exact h.own b h'
    · exact .inr (Nat.le_trans z h')
theorem Grow.trans {w0 w1 w2 : World} {v0 v1 v2 : Value} {cs ds : List Nat} (h : Grow w0 v0 w1 v1 cs) (k : Grow w1 v1 w2 v2 ds) : Grow w0 v0 w2 v2 ds := by
  have z := h.keep.size
  refine ⟨k.row, h.keep.trans (k.keep.mono (fun b hb => ⟨Nat.lt_of_lt_of_le hb.1 z, fun h' => ?_⟩)), fun b hb => ?_⟩
  · rcases h.own b h' with h1 | h1
    · exact hb.2 h1
    · omega
  · rcases k.own b hb with h' | h'
    · exact h.own b h'
    · exact .inr (Nat.le_trans z h')

set_option maxRecDepth 100000 in
set_option maxHeartbeats 4000000 in
theorem put_walk (v : Value) (cs : List Nat) (k : Nat) (lv : Value) (l : List Int) (w : World) (p : Nat → Prop) (hrow : Row w 5 v (ints .u8 cs)) (hl : Cells w p lv (l.map (Value.int .i64))) (hp : ∀ b, p b → v.ownBlock ≠ some b) (hk : k ≤ 8) (hk0 : 0 < k) (hb : cs.length + k * l.length ≤ 1099511627776) :
    Calls Tryd.prog 60 #[v, .int .i64 (k : Int), lv] w fun e w' => ∃ v', e = .returned v' ∧ Grow w v w' v' (cs ++ Rp.nums k l) := by
  have HRW := hid hrow
  have HLV := hid (hl.lt.mono (q := fun b => b < w.heap.size ∧ v.ownBlock ≠ some b) (fun b h => ⟨h.1, hp b h.2⟩))
  obtain ⟨a1, n1, c1, rfl, e1, m1, q1, hcc⟩ := HLV.out
  rw [List.length_map] at e1
  have q1' : c1 ≤ 9223372036854775807 := by simpa [maxLen] using q1
  have HCC := hid hcc
  have HN := hid e1.symm
  have HB := hid hb
  clear hrow hl hp q1 hcc e1 hb
  go_enter Tryd.func60, Tryd.ntmps60
  go_wp2_with fail
  go_loopg [0, 12] n1 (fun g s0 s12 wr => ∃ m : Nat, m + g = n1 ∧ s12 = .int .i64 (m : Int) ∧ Grow w v wr s0 (cs ++ Rp.nums k (l.take m)))
  case atStart => exact ⟨0, by omega, rfl, by have := Grow.refl HRW.out; simpa [Rp.nums] using this⟩
  case round =>
    obtain ⟨m, hm, rfl, hg⟩ := hrel
    have HG := hid hg
    clear hg
    by_cases hlt : m < n1
    · obtain ⟨x, hx⟩ : ∃ x, l[m]? = some x := ⟨_, List.getElem?_eq_getElem (by rw [HN.out]; exact hlt)⟩
      obtain ⟨blk, off, rfl, hpb, hc⟩ := HCC.out (by omega)
      have cx : wr.cell? ⟨blk, off + m, none⟩ = some (.int .i64 x) := by
        rw [HG.out.keep.cell (x := ⟨blk, off + m, none⟩) hpb, hc m hlt, List.getElem?_map, hx]; rfl
      have hx' : l[m]'(by rw [HN.out]; exact hlt) = x := (List.getElem?_eq_some_iff.1 hx).2
      have HX := hid (Rp.nums_take k l m (by rw [HN.out]; exact hlt))
      have HX2 := hid hx'
      have l0 : (m : Int) < (n1 : Int) := by omega
      clear hx hc hx' hpb
      obtain ⟨wo, rfl⟩ : ∃ wo : World, wo = wr := ⟨_, rfl⟩
      have eu := u64_wrap x
      obtain ⟨q, hq⟩ : ∃ q, Wr.u64 x = q := ⟨_, rfl⟩
      rw [hq] at eu
      have HQ := hid hq
      clear hq
      have hk1 : (0 : Int) ≤ (k : Int) - 1 := by omega
      go_wp2_with fail
      go_loopg [0, 9] (k + 1) (fun g s0 s9 wy => ∃ j : Nat, j + g = k + 1 ∧ j ≤ k ∧ s9 = .int .i64 ((k : Int) - 1 - (j : Int)) ∧ Grow w v wy s0 (cs ++ Rp.nums k (l.take m) ++ (Rp.num q k).take j))
      case atStart => exact ⟨0, by omega, by omega, by simp, by simpa using HG.out⟩
      case round =>
        obtain ⟨j, hj, hjk, rfl, hgj⟩ := hrel
        have HJ := hid hgj
        clear hgj
        by_cases hjl : j < k
        · have i0 : (0 : Int) ≤ (k : Int) - 1 - (j : Int) := by omega
          have ig : decide ((0 : Int) ≤ (k : Int) - 1 - (j : Int)) = true := by simp; omega
          obtain ⟨i, hi⟩ : ∃ i : Nat, (k : Int) - 1 - (j : Int) = (i : Int) := ⟨k - 1 - j, by omega⟩
          have hi7 : i ≤ 7 := by omega
          have HI := hid (show k - 1 - j = i by omega)
          rw [hi] at i0 ig ⊢
          have HI2 := hid hi
          clear hi
          have b3 : (0 : Int) ≤ 8 * (i : Int) := by omega
          have b4 : 8 * (i : Int) < 64 := by omega
          obtain ⟨y, hy⟩ : ∃ y : Nat, q / 256 ^ i % 256 = y := ⟨_, rfl⟩
          have hyv2 : (q : Int) / 2 ^ (8 * i) % 256 = (y : Int) := by
            have hp2 : (2 : Nat) ^ (8 * i) = 256 ^ i := by rw [Nat.pow_mul]
            have e : (2 : Int) ^ (8 * i) = ((256 ^ i : Nat) : Int) := by rw [← hp2]; simp
            rw [e]
            show ((q : Int) / ((256 ^ i : Nat) : Int)) % ((256 : Nat) : Int) = _
            rw [← Int.natCast_ediv, ← Int.natCast_emod, hy]
          have hyv : (q : Int) / 2 ^ (8 * (i : Int)).toNat % 256 = (y : Int) := by
            rw [show (8 * (i : Int)).toNat = 8 * i by omega]; exact hyv2
          have HY := hid hy
          have hlen : (cs ++ Rp.nums k (l.take m) ++ (Rp.num q k).take j).length + 1 ≤ 140737488355328 := by
            have h1 := HB.out
            rw [List.length_append, List.length_append, Rp.nums_length, List.length_take, List.length_take, Rp.num_length]
            have h2 : k * min m l.length ≤ k * l.length := Nat.mul_le_mul_left _ (Nat.min_le_right _ _)
            omega
          have HA := hid ((HJ.out.next ((Keep.refl _ _).alloc (.cells (ints .u8 [y]).toArray 5) (fun _ h => h))).app 32 _ [y] (made_cells wr 5 (fun _ => True) (ints .u8 [y]) trivial (by simp [ints])) hlen)
          clear hy hlen
          go_wp2_with (at_builtin; refine wpList_app rfl (.tmp 22) (.tmp 29) 32 32 rfl _ HA.out ?_; rintro v3 w3 g3; have G3 := hid g3; clear g3)
          go_roundg (k + 1 - (j + 1))
          case measure => omega
          case rel => exact ⟨j + 1, by omega, by omega, by have := HI2.out; go_num, by rw [Rp.num_take q k j hjl, ← List.append_assoc, HI.out, HY.out]; exact G3.out⟩
        · obtain rfl : k = j := by omega
          have G2 := hid (show Grow w v wr u0 (cs ++ Rp.nums k (l.take (m + 1))) by
            have h := HJ.out
            rw [List.take_of_length_le (l := Rp.num q k) (by rw [Rp.num_length]; exact Nat.le_refl _), List.append_assoc] at h
            rw [HX.out, HX2.out, HQ.out]
            exact h)
          clear hjl
          have ig : decide ((0 : Int) ≤ (k : Int) - 1 - (k : Int)) = false := by simp; omega
          have ig2 : ¬ (0 : Int) ≤ (k : Int) - 1 - (k : Int) := by omega
          go_wp2_with fail
          go_roundg (n1 - (m + 1))
          case measure => omega
          case rel => exact ⟨m + 1, by omega, by go_num, G2.out⟩
    · obtain rfl : n1 = m := by omega
      have G2 := hid (show Grow w v wr u0 (cs ++ Rp.nums k l) by
        have h := HG.out
        rwa [List.take_of_length_le (l := l) (by rw [HN.out]; exact Nat.le_refl _)] at h)
      clear hlt
      go_wp2_with fail
      go_ret
      exact ⟨_, rfl, G2.out⟩
end Go.Proofs.YtnpneippahdigaaDoor
