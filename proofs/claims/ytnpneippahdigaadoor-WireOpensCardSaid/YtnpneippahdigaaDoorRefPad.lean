/-
  Step by step: the reference's 'padded'; and the plain law: a message with what stands behind it, taken block by block, gives the digest.
-/
import Derived.Test.YtnpneippahdigaaDoorMem
import Derived.Test.YtnpneippahdigaaDoorSha
import Derived.Test.YtnpneippahdigaaDoorProg
import Derived.Test.YtnpneippahdigaaDoorSum2
import Derived.OwnWalk
import Derived.Deep.LoopGhost
import Derived.Deep.DeepCutAuto
namespace Go.Proofs.YtnpneippahdigaaDoor
open Go.RowKit Go.Proofs.Mem

namespace Ref3
/-- zeros wanted behind a message of n bytes and one more. -/
def zs (n : Nat) : Nat := (119 - n % 64) % 64
/-- a message and what stands behind it. -/
def padB (b : List Nat) : List Nat := b ++ 128 :: (List.replicate (zs b.length) 0 ++ Sha.be8 (8 * b.length))
theorem padB_length (b : List Nat) : (padB b).length = 64 * ((b.length + 72) / 64) := by
  simp only [padB, zs, Sha.be8, List.length_append, List.length_cons, List.length_replicate, List.length_nil]
  omega
theorem zeros_take (f z : Nat) : ∀ s : Sha.St, z ≤ f → (s.n + z) % 64 = 56 → (∀ j, j < z → (s.n + j) % 64 ≠ 56) → Sha.St.zeros f s = s.take (List.replicate z 0) := by
  induction z generalizing f with
  | zero =>
    intro s _ h _
    exact zeros_stop f s h
  | succ z ih =>
    intro s hf h hn
    obtain ⟨f, rfl⟩ : ∃ g, f = g + 1 := ⟨f - 1, by omega⟩
    rw [zeros_go f s (by have := hn 0 (by omega); simpa using this)]
    have hp : (s.put 0).n = s.n + 1 := rfl
    rw [ih f (s.put 0) (by omega) (by rw [hp]; rw [← h]; congr 1; omega) (fun j hj => by rw [hp]; have := hn (j + 1) (by omega); rwa [show s.n + 1 + j = s.n + (j + 1) by omega]), List.replicate_succ]
    rfl
theorem padded_take (b : List Nat) : (Sha.St.new.take b).padded = Sha.St.new.take (padB b) := by
  unfold Sha.St.padded padB
  have hn : (Sha.St.new.take b).n = b.length := by rw [Sha.take_n]; exact Nat.zero_add _
  rw [zeros_take 64 (zs b.length) _ (by unfold zs; omega)
    (by show ((Sha.St.new.take b).n + 1 + _) % 64 = 56; rw [hn]; unfold zs; omega)
    (fun j hj => by show ((Sha.St.new.take b).n + 1 + j) % 64 ≠ 56; rw [hn]; unfold zs at hj; omega), hn]
  rw [Sha.take_append, Sha.take_cons, Sha.take_append]
/-- block by block. -/
def blocks : Nat → List Nat → List Nat → List Nat
  | 0, ws, _ => ws
  | k + 1, ws, m => blocks k (Sha.mix ws (m.take 64)) (m.drop 64)
theorem blocks_take (k : Nat) : ∀ (s : Sha.St) (m : List Nat), s.left.length = 64 → s.n % 64 = 0 → m.length = 64 * k → (s.take m).ws = blocks k s.ws m := by
  induction k with
  | zero =>
    intro s m _ _ hm
    obtain rfl : m = [] := List.eq_nil_of_length_eq_zero (by omega)
    rfl
  | succ k ih =>
    intro s m hl h0 hm
    have e : m = m.take 64 ++ m.drop 64 := (List.take_append_drop 64 m).symm
    have ht : (m.take 64).length = 64 := by rw [List.length_take]; omega
    conv => lhs; rw [e]
    rw [Sha.take_append, Sha.take_chunk s hl (m.take 64) (by omega) (by omega), if_pos (by omega), h0]
    simp only [List.take_zero, List.nil_append, Nat.zero_add, ht]
    have hd : s.left.drop 64 = [] := List.drop_of_length_le (by omega)
    rw [hd, List.append_nil, ih _ (m.drop 64) (by simpa using ht) (by show (s.n + 64) % 64 = 0; omega) (by rw [List.length_drop]; omega)]
    rfl
theorem of_blocks (b : List Nat) : Sha.of b = (blocks ((b.length + 72) / 64) Sha.St.new.ws (padB b)).flatMap Sha.be4 := by
  unfold Sha.of Sha.St.sum
  rw [padded_take, blocks_take _ _ _ (by decide) (by decide) (padB_length b)]
end Ref3

/-- the tail while it is made: its last places. -/
def tailTo (N i : Nat) : List Nat := List.replicate i 0 ++ (Sha.be8 N).drop i
theorem tailTo_8 (N : Nat) : tailTo N 8 = List.replicate 8 0 := by simp [tailTo, Sha.be8]
theorem tailTo_0 (N : Nat) : tailTo N 0 = Sha.be8 N := by simp [tailTo]
theorem tailTo_set (N i : Nat) (hi : i < 8) : (tailTo N (i + 1)).set i (N / 256 ^ (7 - i) % 256) = tailTo N i := by
  have h : i = 0 ∨ i = 1 ∨ i = 2 ∨ i = 3 ∨ i = 4 ∨ i = 5 ∨ i = 6 ∨ i = 7 := by omega
  rcases h with rfl | rfl | rfl | rfl | rfl | rfl | rfl | rfl <;> simp [tailTo, Sha.be8, List.replicate]
theorem tailTo_length (N i : Nat) (hi : i ≤ 8) : (tailTo N i).length = 8 := by simp [tailTo, Sha.be8]; omega

theorem owns_form {w : World} {base E : Nat} {v : Value} {cs : List Value} (h : w.ownsRow base E 1 v cs.length cs) : ∃ a c, v = .slice a cs.length c := by
  rcases h.2 with ⟨rfl, hn⟩ | ⟨g, c, cur, rfl, _⟩
  · exact ⟨none, 0, by rw [hn]⟩
  · exact ⟨_, _, rfl⟩

set_option maxRecDepth 100000 in
set_option maxHeartbeats 1000000 in
theorem refpadded_walk (u : Value) (b : List Nat) (w : World) (p : Nat → Prop) (hl : b.length ≤ 1099511627776) (hu : Cells w p u (ints .u8 b)) :
    Calls Tryd.prog 93 #[u] w fun e w' => ∃ v, e = .returned v ∧ Keep (· < w.heap.size) w w' ∧ Cells w' (fun k => w.heap.size ≤ k) v (ints .u8 (Ref3.padB b)) := by
  have Hu := hid (hu.lt.mono (fun _ h => h.1))
  clear hu
  obtain ⟨a1, n1, c1, rfl, e1, m1, q1, _⟩ := Hu.out
  rw [ints_length] at e1
  subst e1
  have q1' : c1 ≤ 9223372036854775807 := by simpa [maxLen] using q1
  clear q1
  obtain ⟨i0, hi0, hz0, hs0, hb0⟩ := info_parts (show (Tryd.prog.info? 5).map (fun i => (i.zero, i.size, i.bytes)) = some (some (.int .u8 0), 1, 1) by kernel_rfl)
  have HA := hid (append_first (P := Tryd.prog) 32 5 i0 (.int .u8 0) 1 Tryd.underlying32 hi0 hz0 hs0 hb0 rfl w 32 _ (ints .u8 b) Hu.out (ints_one _ _) (by rw [ints_length]; omega))
  have HB := hid (fun (w6 : World) (v1 : Value) (cs : List Value) (x : Nat) (hcs : cs.length ≤ 1099511627876) (h : w6.ownsRow w.heap.size 5 1 v1 cs.length cs) (hz : w.heap.size ≤ w6.heap.size) => append_one (P := Tryd.prog) 32 5 i0 (.int .u8 0) 1 Tryd.underlying32 hi0 hz0 hs0 hb0 rfl w6 32 w.heap.size v1 (.int .u8 (x : Int)) cs h rfl (by omega) (by omega) hz)
  go_enter Tryd.func93, Tryd.ntmps93
  go_wp2_with (first
    | (at_builtin; refine wpList_app rfl (.tmp 7) (.tmp 8) 32 32 rfl _ HA.out ?_; rintro v1 w1 ⟨hown, hg, hz1⟩)
    | (at_builtin; refine wpList_app rfl (.tmp 9) (.tmp 10) 32 32 rfl _ (HB.out w1 v1 _ 128 (by rw [ints_length]; omega) hown hz1) ?_; rintro v2 w2 ⟨hown2, hg2, hz2⟩))
  go_loopg [3] (Ref3.zs b.length) (fun k s3 wr => ∃ j : Nat, k + j = Ref3.zs b.length ∧ wr.ownsRow w.heap.size 5 1 s3 (ints .u8 (b ++ 128 :: List.replicate j 0)).length (ints .u8 (b ++ 128 :: List.replicate j 0)) ∧ Keep (· < w.heap.size) w wr ∧ w.heap.size ≤ wr.heap.size)
  case atStart =>
    refine ⟨0, rfl, ?_, hg.trans hg2, hz2⟩
    have e : ints .u8 (b ++ 128 :: List.replicate 0 0) = ints .u8 b ++ [Value.int .u8 ((128 : Nat) : Int)] := by rw [ints_append]; rfl
    rw [e]
    exact hown2
  case round =>
    clear hown hown2 hg hg2 hz1 hz2 HA
    obtain ⟨j, hkj, ho, hK, hz⟩ := hrel
    have hz' := hz
    obtain ⟨a3, c3, rfl⟩ := owns_form ho
    have HO := hid ho
    have HK := hid hK
    have HZ := hid hz
    clear ho hK hz
    have hlen : (ints .u8 (b ++ 128 :: List.replicate j 0)).length = b.length + 1 + j := by rw [ints_length, List.length_append, List.length_cons, List.length_replicate]; omega
    rw [hlen] at HO ⊢
    have hzs : Ref3.zs b.length < 64 := by unfold Ref3.zs; omega
    have hm0 : (b.length + 1 + j) % 64 = 56 ↔ j = Ref3.zs b.length := by unfold Ref3.zs at hkj hzs ⊢; omega
    obtain ⟨n, hn⟩ : ∃ n, b.length + 1 + j = n := ⟨_, rfl⟩
    obtain ⟨m, hm⟩ : ∃ m, n % 64 = m := ⟨_, rfl⟩
    rw [hn] at hm0
    rw [hm] at hm0
    have e1 : (n : Int) % 64 = (m : Int) := by omega
    have hnl : n ≤ 1099511627876 := by omega
    have HN := hid hn
    have HM := hid hm0
    rw [hn] at HO ⊢
    clear hn hm hm0 hlen
    by_cases h56 : m = 56
    · subst h56
      have HJ := hid (HM.out.1 rfl)
      clear HB
      have mk : ∀ w0 : World, (Instr.makeSlice 32 (.int .i64 8) (.int .i64 8)).run Tryd.prog w0 = .ok (.slice (some ⟨w0.heap.size, 0, none⟩) 8 8) (w0.alloc (.cells (ints .u8 (List.replicate 8 0)).toArray 5)) := fun w0 => make_ints (P := Tryd.prog) 32 5 i0 .u8 1 Tryd.underlying32 hi0 hz0 hs0 hb0 8 8 (by decide) (by decide) (by decide) w0
      obtain ⟨N, hN⟩ : ∃ N, 8 * b.length = N := ⟨_, rfl⟩
      have eN : (8 : Int) * (b.length : Int) = (N : Int) := by omega
      have HN8 := hid hN
      clear hN
      go_wp2_with fail
      clear mk eN
      obtain ⟨wo, rfl⟩ : ∃ wo : World, wo = wr := ⟨_, rfl⟩
      go_loopg [4, 6] 8 (fun k s4 s6 wx => ∃ m : Nat, s6 = .int .i64 ((k : Int) - 1) ∧ s4 = .int .u64 (m : Int) ∧ k ≤ 8 ∧ Hid (m = N / 256 ^ (8 - k)) ∧ wx.heap[wo.heap.size]? = some (.cells (ints .u8 (tailTo N k)).toArray 5 (0, 0)) ∧ Keep (· < wo.heap.size) wo wx)
      case atStart =>
        refine ⟨N, rfl, rfl, Nat.le_refl _, ?_, ?_, (Keep.refl _ _).alloc _ (fun _ h => h)⟩
        · show N = N / 256 ^ 0; simp
        · rw [tailTo_8]; exact heap_alloc_new wo _
      case round =>
        obtain ⟨m, rfl, rfl, hk8, hm, hheap, hKx⟩ := hrel
        have HH := hid hheap
        have HX := hid hKx
        clear hheap hKx
        have hbl : wo.heap.size < wr.heap.size := (Array.getElem?_eq_some_iff.1 HH.out).1
        cases gk with
        | zero =>
          have e2 : (ints .u8 (b ++ 128 :: List.replicate j 0)).length = n := by
            rw [ints_length, List.length_append, List.length_cons, List.length_replicate]; have := HN.out; omega
          have hh0 : wr.heap[wo.heap.size]? = some (.cells (ints .u8 (Sha.be8 N)).toArray 5 (0, 0)) := by rw [← tailTo_0]; exact HH.out
          have hc0 : Cells wr (fun _ => True) (.slice (some ⟨wo.heap.size, 0, none⟩) 8 8) (ints .u8 (Sha.be8 N)) := by
            have := Cells.of_block (w := wr) (p := fun _ => True) (cur := ints .u8 (Sha.be8 N)) (off := 0) (n := 8) (cap := 8) hh0 trivial (by simp [ints, Sha.be8]) (Nat.le_refl _) (by decide)
            rwa [List.drop_zero, List.take_of_length_le (by simp [ints, Sha.be8])] at this
          have ho0 : wr.ownsRow w.heap.size 5 1 (.slice a3 n c3) (ints .u8 (b ++ 128 :: List.replicate j 0)).length (ints .u8 (b ++ 128 :: List.replicate j 0)) := owns_keep (w := wo) (by rw [e2]; exact HO.out) HX.out
          have HC := hid (append_keep (P := Tryd.prog) 32 5 i0 (.int .u8 0) 1 Tryd.underlying32 hi0 hz0 hs0 hb0 rfl wr 32 w.heap.size (.slice a3 n c3) _ (ints .u8 (b ++ 128 :: List.replicate j 0)) (ints .u8 (Sha.be8 N)) ho0 hc0 (ints_one _ _) (by rw [e2]; simp [ints, Sha.be8]; omega) (by rw [e2]; simp [ints, Sha.be8]; omega) (Nat.le_trans HZ.out (Nat.le_of_lt hbl)))
          clear e2 hh0 hc0 ho0
          go_wp2_with (at_builtin; refine wpList_app rfl (.tmp 35) (.tmp 36) 32 32 rfl _ HC.out ?_; rintro v4 w4 ⟨hown4, hg4, hz4⟩)
          go_ret
          refine ⟨_, rfl, (HK.out.trans (HX.out.mono (fun k h => Nat.lt_of_lt_of_le h HZ.out))).trans hg4, ?_⟩
          have e : Ref3.padB b = (b ++ 128 :: List.replicate j 0) ++ Sha.be8 N := by
            unfold Ref3.padB
            rw [HN8.out, HJ.out, List.append_assoc, List.cons_append]
          rw [e, ints_append]
          exact owns_cells hown4
        | succ k' =>
          have e3 : ((k' + 1 : Nat) : Int) - 1 = (k' : Int) := by omega
          rw [e3]
          have hl8 : (ints .u8 (tailTo N (k' + 1))).length = 8 := by rw [ints_length, tailTo_length _ _ hk8]
          have cf := frozen_at HH.out k'
          have cc : wr.cell? ⟨wo.heap.size, k', none⟩ = some (.int .u8 ((tailTo N (k' + 1)).getD k' 0 : Nat)) := by rw [cell_at HH.out, ints_get _ _ _ (by rw [← ints_length .u8, hl8]; omega)]
          obtain ⟨z, hz⟩ : ∃ z, (tailTo N (k' + 1)).getD k' 0 = z := ⟨_, rfl⟩
          rw [hz] at cc
          clear hz hl8
          have w1 : IntKind.i64.wrap ((k' : Int) - 1) = (k' : Int) - 1 := IntWalk.i64_in _ (by omega)
          have n1 : (k' : Int) < 8 := by omega
          have n2 : decide ((0 : Int) ≤ (k' : Int)) = true := by simp
          go_wp2_with fail
          go_roundg k'
          case measure => omega
          case rel =>
            refine ⟨m / 256, rfl, by rw [Int.natCast_ediv]; rfl, by omega, ?_, ?_, HX.out.setCell _ (by simp)⟩
            · show m / 256 = N / 256 ^ (8 - k')
              rw [hm.out, Nat.div_div_eq_div_mul, ← Nat.pow_succ]
              congr 2
              omega
            · rw [set_at HH.out]
              have e : ((m : Int) % 256) = ((N / 256 ^ (7 - k') % 256 : Nat) : Int) := by
                rw [hm.out, show 8 - (k' + 1) = 7 - k' by omega, Int.natCast_emod]; rfl
              rw [e, ints_set, tailTo_set N k' (by omega)]
    · have t1 : ((m : Int) != 56) = true := by simp; omega
      have hj := HM.out
      obtain ⟨k', rfl⟩ : ∃ k', gk = k' + 1 := ⟨gk - 1, by omega⟩
      clear hj
      have e2 : (ints .u8 (b ++ 128 :: List.replicate j 0)).length = n := by
        rw [ints_length, List.length_append, List.length_cons, List.length_replicate]; have := HN.out; omega
      have HC := hid (HB.out wr (.slice a3 n c3) (ints .u8 (b ++ 128 :: List.replicate j 0)) 0 (by rw [e2]; exact hnl) (by rw [e2]; exact HO.out) HZ.out)
      clear e2
      go_wp2_with (at_builtin; refine wpList_app rfl (.tmp 16) (.tmp 17) 32 32 rfl _ HC.out ?_; rintro v4 w4 ⟨hown4, hg4, hz4⟩)
      go_roundg k'
      case measure => omega
      case rel =>
        refine ⟨j + 1, by omega, ?_, HK.out.trans hg4, hz4⟩
        have e : ints .u8 (b ++ 128 :: List.replicate (j + 1) 0) = ints .u8 (b ++ 128 :: List.replicate j 0) ++ [Value.int .u8 ((0 : Nat) : Int)] := by
          rw [List.replicate_succ', ← List.cons_append, ← List.append_assoc, ints_append]; rfl
        rw [e]
        exact hown4
end Go.Proofs.YtnpneippahdigaaDoor
