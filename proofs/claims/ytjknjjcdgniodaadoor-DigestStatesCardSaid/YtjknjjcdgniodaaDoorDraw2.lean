/-
  Step by step: 'word' of package draw: a stream's word of a number.
-/
import Derived.Test.YtjknjjcdgniodaaDoorDraw1
import Derived.Laws.Bits64b
namespace Go.Proofs.YtjknjjcdgniodaaDoor
open Go.RowKit Go.Proofs.Mem

theorem StreamAt.lt {w : World} {T b : Nat} {root : List Nat} {rest : List Value} (h : StreamAt w T b root rest) : b < w.heap.size := by
  obtain ⟨_, _, h, _⟩ := h
  exact (Array.getElem?_eq_some_iff.1 h).1
theorem StreamAt.keep {p : Nat → Prop} {w w' : World} {T b : Nat} {root : List Nat} {rest : List Value} (h : StreamAt w T b root rest) (k : Keep p w w') (hp : p b) : StreamAt w' T b root rest := by
  obtain ⟨blk, a, h1, h2, h3⟩ := h
  exact ⟨blk, a, (k.block b hp).trans h1, h2, h3⟩
theorem be8_length (n : Nat) : (Sha.be8 n).length = 8 := rfl
theorem blockOf_length {root : List Nat} (hr : ∀ x ∈ root, x < 256) (k : Nat) : (Drw.blockOf root k).length = 32 := of_length (by
  intro x hx
  rcases List.mem_append.1 hx with h | h
  · exact hr x h
  · exact be8_lt h)
theorem blockOf_lt {root : List Nat} (k : Nat) : ∀ x ∈ Drw.blockOf root k, x < 256 := of_lt
theorem strC_root {root blk : List Nat} {a : Int} {rest : List Value} (hr : root.length = 32) : (strC root blk a rest).take 32 = ints .u8 root := by
  unfold strC; rw [List.take_append_of_le_length (by rw [ints_length]; omega), List.take_of_length_le (by rw [ints_length]; omega)]
theorem strC_blk {root blk : List Nat} {a : Int} {rest : List Value} (hr : root.length = 32) : (strC root blk a rest).drop 32 = ints .u8 blk ++ (Value.int .i64 a :: rest) := by
  unfold strC
  rw [List.drop_append, List.drop_of_length_le (by rw [ints_length]; omega), ints_length, hr]
  rfl
theorem strC_at {root blk : List Nat} {a : Int} {rest : List Value} (hr : root.length = 32) (hb : blk.length = 32) : (strC root blk a rest)[64]? = some (.int .i64 a) := by
  unfold strC
  rw [List.getElem?_append_right (by rw [ints_length]; omega), List.getElem?_append_right (by rw [ints_length, ints_length]; omega), ints_length, ints_length, hr, hb]
  rfl
theorem strC_setat {root blk : List Nat} {a b : Int} {rest : List Value} (hr : root.length = 32) (hb : blk.length = 32) : (strC root blk a rest).set 64 (.int .i64 b) = strC root blk b rest := by
  unfold strC
  rw [List.set_append_right _ _ (by rw [ints_length]; omega), List.set_append_right _ _ (by rw [ints_length, ints_length]; omega), ints_length, ints_length, hr, hb]
  rfl
theorem shl8 (u : Nat) : Op.shift .shl .u64 (u : Int) .u64 8 = pure (.int .u64 ((u * 256 % 18446744073709551616 : Nat) : Int)) := by
  rw [shift_shl_u64 (x := (u : Int)) (y := 8) (yk := .u64) (by decide) (by decide)]
  have : IntKind.u64.wrap ((u : Int) * 2 ^ (8 : Int).toNat) = ((u * 256 % 18446744073709551616 : Nat) : Int) := by
    rw [IntKind.wrap_u64]
    have e : (2 : Int) ^ (8 : Int).toNat = 256 := by decide
    rw [e]; omega
  rw [this]

/-- eight bytes while they are written from the first one on. -/
def headTo (N i : Nat) : List Nat := (Sha.be8 N).take i ++ List.replicate (8 - i) 0
theorem headTo_8 (N : Nat) : headTo N 8 = Sha.be8 N := by simp [headTo, Sha.be8]
theorem headTo_0 (N : Nat) : headTo N 0 = List.replicate 8 0 := by simp [headTo]
theorem headTo_length (N i : Nat) (hi : i ≤ 8) : (headTo N i).length = 8 := by simp [headTo, Sha.be8]; omega
theorem headTo_set (N i : Nat) (hi : i < 8) : (headTo N i).set i ((Sha.be8 N).getD i 0) = headTo N (i + 1) := by
  have h : i = 0 ∨ i = 1 ∨ i = 2 ∨ i = 3 ∨ i = 4 ∨ i = 5 ∨ i = 6 ∨ i = 7 := by omega
  rcases h with rfl | rfl | rfl | rfl | rfl | rfl | rfl | rfl <;> simp [headTo, Sha.be8, List.replicate]

set_option maxRecDepth 100000 in
set_option maxHeartbeats 2000000 in
theorem word_walk (T b : Nat) (root : List Nat) (rest : List Value) (n : Nat) (w : World) (hr : root.length = 32) (hx : ∀ x ∈ root, x < 256) (hn : n < 4611686018427387904) (hT : TurnsAt w) (hb : StreamAt w T b root rest) (hg : 17 ≠ b) (h1 : ∀ v ∈ rest, v.oneCell' = true) :
    Calls Tryd.prog 50 #[.pointer (some ⟨b, 0, none⟩), .int .i64 (n : Int)] w fun e w' => e = .returned (.int .u64 (Drw.wordN root n : Nat)) ∧ Keep (fun k => k < w.heap.size ∧ k ≠ b) w w' ∧ StreamAt w' T b root rest := by
  have hbl := hb.lt
  obtain ⟨blk, a, hheap, hbk, ha⟩ := hb
  have c64 : w.cell? ⟨b, 64, none⟩ = some (.int .i64 a) := by rw [cell_at hheap]; exact strC_at hr hbk
  have HH := hid hheap
  have HT := hid hT
  have HX := hid hx
  have HA := hid ha
  have HR := hid hr
  have HBK := hid hbk
  have HG := hid hg
  have HO := hid h1
  clear hheap hT hx ha hr hbk hg h1
  obtain ⟨q, hq⟩ : ∃ q, n / 4 = q := ⟨_, rfl⟩
  have q1 : (n : Int) / 4 = (q : Int) := by omega
  have HQ := hid hq
  clear hq
  go_enter Tryd.func50, Tryd.ntmps50
  go_upto_if 18 with fail
  go_cut [] (fun wx => wx.heap[b]? = some (.cells (strC root (Drw.blockOf root q) (q : Int) rest).toArray T (0, 0)) ∧ Keep (fun k => k < w.heap.size ∧ k ≠ b) w wx)
  case first =>
    by_cases hqa : (q : Int) = a
    · have t1 : ((q : Int) != a) = false := by simp; exact hqa
      have hbq : Hid (w.heap[b]? = some (.cells (strC root (Drw.blockOf root q) (q : Int) rest).toArray T (0, 0))) := by
        rcases HA.out with h | ⟨k, h, h'⟩
        · omega
        · have : k = q := by omega
          subst this
          rw [← h', hqa]
          exact HH.out
      go_wp2_with fail
      go_meet
      case rel => exact ⟨hbq.out, Keep.refl _ _⟩
    · have t1 : ((q : Int) != a) = true := by simp; exact hqa
      go_wp2_with fail
      have hbw := hbl
      go_loopg [19] 8 (fun k s19 wr => ∃ i : Nat, i + k = 8 ∧ s19 = .int .i64 (i : Int) ∧ wr.heap[w.heap.size]? = some (.cells (ints .u8 (headTo q i)).toArray 107 (0, 0)) ∧ Keep (· < w.heap.size) w wr)
      case atStart => exact ⟨0, rfl, rfl, heap_alloc_new w _, (Keep.refl _ _).alloc _ (fun _ h => h)⟩
      case round =>
        obtain ⟨i, hi, rfl, ho, hko⟩ := hrel
        by_cases hi8 : i < 8
        · have cf := frozen_at ho i
          obtain ⟨old, co⟩ : ∃ v, wr.cell? ⟨w.heap.size, i, none⟩ = some v := ⟨_, by rw [cell_at ho, ints_get _ _ _ (by rw [headTo_length _ _ (by omega)]; omega)]⟩
          have HO3 := hid (And.intro ho hko)
          have b3 : (0 : Int) ≤ 56 - 8 * (i : Int) := by omega
          have b4 : 56 - 8 * (i : Int) < 64 := by omega
          have l0 : (i : Int) < 8 := by omega
          obtain ⟨x, hx⟩ : ∃ x, (Sha.be8 q).getD i 0 = x := ⟨_, rfl⟩
          have hval : (q : Int) / 2 ^ (56 - 8 * (i : Int)).toNat % 256 = (x : Int) := be8_byte q i _ _ x rfl hi8 rfl hx
          have HV := hid (And.intro hx hval)
          clear ho hko hx hval
          go_wp2_with fail
          go_roundg (gk - 1)
          case measure => omega
          case rel =>
            refine ⟨i + 1, by omega, by go_num, ?_, HO3.out.2.setCell _ (by simp)⟩
            rw [set_at HO3.out.1]
            have e : ((q : Int) / 2 ^ (56 - 8 * i) % 256) = (((Sha.be8 q).getD i 0 : Nat) : Int) := by
              rw [HV.out.1, ← HV.out.2, show (56 - 8 * (i : Int)).toNat = 56 - 8 * i by omega]
            rw [e]
            have := headTo_set q i hi8
            rw [← this]
            exact congrArg (fun l : List Value => some (Obj.cells l.toArray _ _)) (ints_set .u8 (headTo q i) i _)
        · obtain rfl : i = 8 := by omega
          rw [headTo_8] at ho
          have HO2 := hid (And.intro ho hko)
          clear ho hko
          go_wp2_with fail
          refine Txt.wp_region_text [true, true, false, true, true, true, true, false, true, false, false, true, true, true, false, true, true, false] (fun _ => True) (by kernel_rfl) (by kernel_rfl) trivial ?_
          iterate 2 (refine Txt.text_free rfl (fun K hK => ?_); go_simp; refine hK _ ?_; clear hK K)
          refine Txt.text_chain rfl (fun K hK => ?_)
          go_simp
          have hzo : w.heap.size < wr.heap.size := (Array.getElem?_eq_some_iff.1 HO2.out.1).1
          refine (new_walk _).mono ?_
          rintro e w1 ⟨rfl, k1, z1, h1⟩
          obtain ⟨c, hc⟩ : ∃ c, wr.heap.size = c := ⟨_, rfl⟩
          have hc' : wr.drew.heap.size = c := hc
          rw [hc'] at h1 z1 ⊢
          have k01 : Keep (fun k => k < c) wr w1 := (Keep.refl _ wr).drew.trans (k1.mono (fun k h => by rw [hc']; exact h))
          have hwc : w.heap.size < c := by omega
          have H1 := hid (And.intro (HO2.out.2.trans (k01.mono (fun k h => by omega))) (And.intro ((k01.block w.heap.size hwc).trans HO2.out.1) (And.intro h1 ((k01.block b (by omega)).trans ((HO2.out.2.block b hbl).trans HH.out)))))
          clear k1 h1 k01 hc hc'
          refine hK _ _ ⟨trivial, ?_⟩
          clear hK K
          iterate 4 (refine Txt.text_free rfl (fun K hK => ?_); go_simp; refine hK _ ?_; clear hK K)
          refine Txt.text_chain rfl (fun K hK => ?_)
          go_simp
          have hcR : Cells w1 (· ≠ c) (.slice (some ⟨b, 0, none⟩) 32 32) (ints .u8 root) := by
            have := Cells.of_block (w := w1) (p := (· ≠ c)) (cur := strC root blk a rest) (off := 0) (n := 32) (cap := 32) H1.out.2.2.2 (by omega) (by rw [strC_length HR.out HBK.out]; omega) (Nat.le_refl _) (by decide)
            rwa [List.drop_zero, strC_root HR.out] at this
          refine (take_walk c Sha.St.new _ root w1 new_good (by rw [HR.out]; decide) HX.out (HT.out.keep H1.out.1 HT.out.lt) H1.out.2.2.1 hcR).mono ?_
          rintro e w2 ⟨rfl, k2, h2⟩
          have H2 := hid (And.intro (H1.out.1.trans (k2.mono (fun k h => by omega))) (And.intro ((k2.block w.heap.size (by omega)).trans H1.out.2.1) (And.intro h2 ((k2.block b (by omega)).trans H1.out.2.2.2))))
          have z2 := k2.size
          clear k2 h2 H1 hcR
          refine hK _ _ ⟨trivial, ?_⟩
          clear hK K
          refine Txt.text_free rfl (fun K hK => ?_); go_simp; refine hK _ ?_; clear hK K
          refine Txt.text_chain rfl (fun K hK => ?_)
          go_simp
          have hcN : Cells w2 (· ≠ c) (.slice (some ⟨w.heap.size, 0, none⟩) 8 8) (ints .u8 (Sha.be8 q)) := by
            have := Cells.of_block (w := w2) (p := (· ≠ c)) (cur := ints .u8 (Sha.be8 q)) (off := 0) (n := 8) (cap := 8) H2.out.2.1 (by omega) (by rw [ints_length, be8_length]; decide) (Nat.le_refl _) (by decide)
            rwa [List.drop_zero, List.take_of_length_le (by rw [ints_length, be8_length]; decide)] at this
          have hn2 : (Sha.St.new.take root).n = 32 := by rw [Sha.take_n, HR.out]; rfl
          refine (take_walk c _ _ (Sha.be8 q) w2 (take_good new_good HX.out) (by rw [hn2, be8_length]; decide) (fun y hy => be8_lt hy) (HT.out.keep H2.out.1 HT.out.lt) H2.out.2.2.1 hcN).mono ?_
          rintro e w3 ⟨rfl, k3, h3⟩
          have H3 := hid (And.intro (H2.out.1.trans (k3.mono (fun k h => by omega))) (And.intro h3 ((k3.block b (by omega)).trans H2.out.2.2.2)))
          have z3 := k3.size
          clear k3 h3 H2 hcN
          refine hK _ _ ⟨trivial, ?_⟩
          clear hK K
          refine Txt.text_chain rfl (fun K hK => ?_)
          go_simp
          refine (sum_walk c _ w3 (take_good (take_good new_good HX.out) (fun y hy => be8_lt hy)) (by rw [Sha.take_n, hn2, be8_length]; decide) (HT.out.keep H3.out.1 HT.out.lt) H3.out.2.1).mono ?_
          rintro e w4 ⟨rfl, k4⟩
          obtain ⟨F, hF⟩ : ∃ F, ((Sha.St.new.take root).take (Sha.be8 q)).sum = F := ⟨_, rfl⟩
          have hFb : F = Drw.blockOf root q := by rw [← hF, ← Sha.take_append]; rfl
          have hFl : F.length = 32 := by rw [hFb]; exact blockOf_length HX.out q
          rw [hF]
          have H4 := hid (And.intro (H3.out.1.trans (k4.mono (fun k h => by omega))) (And.intro ((k4.block b (by omega)).trans H3.out.2.2) hFb))
          have z4 := k4.size
          clear k4 H3 hF hFb hn2
          refine hK _ _ ⟨trivial, ?_⟩
          clear hK K
          iterate 3 (refine Txt.text_free rfl (fun K hK => ?_); go_simp; refine hK _ ?_; clear hK K)
          refine Txt.text_chain rfl (fun K hK => ?_)
          refine wp_store_mid 24 (.tmp 45) (.tmp 42) rfl b 32 (ints .u8 F).toArray rfl rfl (there_of H4.out.2.1 (by rw [strC_length HR.out HBK.out, List.size_toArray, ints_length, hFl]; omega)) (info32 F hFl) (ints_all _ _) ?_
          have hb5 := heap_setCells (ints .u8 F) 32 w4 _ H4.out.2.1 (by rw [strC_length HR.out HBK.out, ints_length, hFl]; omega)
          have e5 : lay (strC root blk a rest) 32 (ints .u8 F) = strC root F a rest := lay_mid (ints .u8 root) (ints .u8 blk) _ (ints .u8 F) 32 (by rw [ints_length, HR.out]) (by rw [ints_length, ints_length, HBK.out, hFl])
          rw [e5] at hb5
          have k5 := Keep.setCells (p := fun k => k ≠ b) (b := b) (ints .u8 F) 32 w4 (Keep.refl _ _) (by simp)
          obtain ⟨w5, hw5⟩ : ∃ w5, w4.setCells b 32 (ints .u8 F).toArray.toList = w5 := ⟨_, rfl⟩
          rw [hw5]
          have hw5' : w4.setCells b 32 (ints .u8 F) = w5 := hw5
          rw [hw5'] at hb5 k5
          have f64 := frozen_at hb5 64
          have d64 : w5.cell? ⟨b, 64, none⟩ = some (.int .i64 a) := by rw [cell_at hb5]; exact strC_at HR.out hFl
          have H5 := hid (And.intro ((H4.out.1.mono (fun k (h : k < w.heap.size ∧ k ≠ b) => h.1)).trans (k5.mono (fun k h => h.2))) (And.intro hb5 H4.out.2.2))
          clear hb5 k5 hw5 hw5' e5 H4
          refine hK _ _ ⟨trivial, ?_⟩
          clear hK K
          simp only [Act.put]
          iterate 2 (refine Txt.text_free rfl (fun K hK => ?_); go_simp; refine hK _ ?_; clear hK K)
          refine Txt.text_chain rfl (fun K hK => ?_)
          go_simp
          refine hK _ _ ⟨trivial, ?_⟩
          clear hK K
          refine Txt.text_done ?_
          go_wp2_with fail
          go_meet
          case rel =>
            refine ⟨?_, H5.out.1.setCell _ (by simp)⟩
            rw [set_at H5.out.2.1, strC_setat HR.out hFl, H5.out.2.2]
  case rest =>
    clear c64
    obtain ⟨hb2, hk2⟩ := hcut
    obtain ⟨B, hB⟩ : ∃ B, Drw.blockOf root q = B := ⟨_, rfl⟩
    have hBl : B.length = 32 := by rw [← hB]; exact blockOf_length HX.out q
    have hBx : ∀ x ∈ B, x < 256 := by rw [← hB]; exact blockOf_lt q
    obtain ⟨r, hr⟩ : ∃ r, n % 4 = r := ⟨_, rfl⟩
    have hr4 : r < 4 := by omega
    have r1 : (n : Int) % 4 = (r : Int) := by omega
    obtain ⟨xs, hxs⟩ : ∃ xs, (B.drop (r * 8)).take 8 = xs := ⟨_, rfl⟩
    have hxl : xs.length = 8 := by rw [← hxs, List.length_take, List.length_drop, hBl]; omega
    have hxb : ∀ x ∈ xs, x < 256 := fun x hx => hBx x (by rw [← hxs] at hx; exact List.mem_of_mem_drop (List.mem_of_mem_take hx))
    have hcell : ∀ i, i < 8 → wc.cell? ⟨b, 32 + (r * 8 + i), none⟩ = some (.int .u8 (xs.getD i 0 : Nat)) := by
      intro i hi
      rw [cell_at hb2]
      have e : (strC root (Drw.blockOf root q) (q : Int) rest)[32 + (r * 8 + i)]? = (ints .u8 B ++ (Value.int .i64 (q : Int) :: rest))[r * 8 + i]? := by
        rw [← hB, ← strC_blk (a := (q : Int)) (rest := rest) HR.out, List.getElem?_drop]
      rw [e, List.getElem?_append_left (by rw [ints_length, hBl]; omega), ints_get _ _ _ (by rw [hBl]; omega), ← hxs]
      congr 3
      rw [List.getD_eq_getElem?_getD, List.getD_eq_getElem?_getD, List.getElem?_take, if_pos hi, List.getElem?_drop]
    have HCL := hid hcell
    have HS := hid (show Drw.wordN root n = Drw.num8 xs by unfold Drw.wordN; rw [HQ.out, hr, hB, hxs])
    have HC := hid (And.intro hk2 (show StreamAt wc T b root rest from ⟨_, _, hb2, blockOf_length HX.out q, .inr ⟨q, rfl, rfl⟩⟩))
    have HXB := hid hxb
    obtain ⟨m, hm⟩ : ∃ m, r * 8 = m := ⟨_, rfl⟩
    have rm : (r : Int) * 8 = (m : Int) := by omega
    have m1 : (m : Int) ≤ 24 := by omega
    have m2 : (m : Int) ≤ 32 := by omega
    have m3 : m ≤ 24 := by omega
    have HM := hid hm
    clear hb2 hk2 hB hr hxs hxb hBx hcell q1 hm
    go_wp2_with fail
    go_loopg [8, 57] 8 (fun k s8 s57 wr => ∃ i u : Nat, i + k = 8 ∧ s57 = .int .i64 (i : Int) ∧ s8 = .int .u64 (u : Int) ∧ Hid (u = Drw.num8 (xs.take i)) ∧ u < 18446744073709551616 ∧ wr = wc)
    case atStart => exact ⟨0, 0, rfl, rfl, rfl, rfl, by decide, rfl⟩
    case round =>
      obtain ⟨i, u, hi, rfl, rfl, hu, hul, rfl⟩ := hrel
      by_cases hi8 : i < 8
      · obtain ⟨x, hx⟩ : ∃ x, xs.getD i 0 = x := ⟨_, rfl⟩
        have cx : wr.cell? ⟨b, 32 + m + i, none⟩ = some (.int .u8 (x : Nat)) := by
          have := HCL.out i hi8
          rwa [HM.out, ← Nat.add_assoc, hx] at this
        have hxb : x < 256 := by rw [← hx]; exact HXB.out _ (by rw [List.getD_eq_getElem?_getD, List.getElem?_eq_getElem (by omega)]; exact List.getElem_mem _)
        have HXX := hid hx
        have sh := shl8 u
        have l0 : (i : Int) < 8 := by omega
        clear hx
        go_wp2_with fail
        go_roundg (gk - 1)
        case measure => omega
        case rel =>
          have eo : bits .or .u64 ((u : Int) * 256 % 18446744073709551616) (x : Int) = (((u * 256 % 18446744073709551616) ||| x : Nat) : Int) := by
            have := bits_or_u64_nat (u * 256 % 18446744073709551616) x (Nat.mod_lt _ (by decide)) (by omega)
            have e1 : ((u * 256 % 18446744073709551616 : Nat) : Int) = (u : Int) * 256 % 18446744073709551616 := by omega
            rw [e1] at this
            exact this
          rw [eo]
          refine ⟨i + 1, _, by omega, by go_num, rfl, ?_, Drw.or_lt _ _ (Nat.mod_lt _ (by decide)) (by omega), rfl⟩
          show _ = Drw.num8 (xs.take (i + 1))
          rw [← take_snoc' xs i (by omega), Drw.num8_snoc, ← hu.out, HXX.out]
      · obtain rfl : i = 8 := by omega
        have e8 := hu.out
        rw [List.take_of_length_le (by omega)] at e8
        have HE := hid e8
        clear e8
        go_wp2_with fail
        go_ret
        refine ⟨?_, HC.out.1, HC.out.2⟩
        show Ending.returned (Value.int .u64 (u : Int)) = _
        rw [HS.out, ← HE.out]
end Go.Proofs.YtjknjjcdgniodaaDoor
