/-
  slices.Chunk over bytes: what its function value hands to a loop, at pieces of eleven.
-/
import Derived.RangeFuncNested
import Derived.RangeFuncBound
import Derived.RangeFuncCalls
import Derived.RangeFuncBox
import Derived.RangeFuncLeaves
import Derived.Shelf.Abstract
import Derived.Shelf.RegionOpen
import Derived.WalkKit
import Derived.OwnWalkIn
import Derived.TacticsInMore
import Derived.LoopNIn
import Derived.LoopIn
import Derived.Test.YtnpneippahdigaaDoorMem
import Derived.Test.YtnpneippahdigaaDoorProg
namespace Go.Proofs.YtnpneippahdigaaDoor
open Go.RowKit Go.Shelf Go.Proofs.Mem

attribute [local go_sem] Oper.semAt_some

/-- the first k pieces. -/
def ofs (k : Nat) : List Nat := List.range k
theorem ofs_succ (k : Nat) : ofs (k + 1) = ofs k ++ [k] := by simp [ofs, List.range_succ]
theorem ofs_length (k : Nat) : (ofs k).length = k := by simp [ofs]

set_option maxRecDepth 100000 in
set_option maxHeartbeats 4000000 in
theorem chunk1_in (F : Fence) (n : Nat) (h7 : F.fn 86) (hro : F.round = none) (hn : 1 ≤ n) (l Bs Bn b off cap N L : Nat) (hL : L = 11 * N) (hcap : L ≤ cap) (hcm : cap ≤ 9223372036854775807) (J Jx : List Nat → World → Prop) (hdr : ∀ s W, J s W → J s W.drew)
    (hY : ∀ pre (x : Nat) W, J pre W → pre.length < N → YieldAt F (n - 1) Tryd.prog l #[.slice (some ⟨b, off + 11 * (x % N), none⟩) 11 11] W fun e W' =>
      (e = .returned (.bool true) ∧ J (pre ++ [x]) W' ∧ Keep (fun k => k = Bs ∨ k = Bn) W W') ∨ (e = .returned (.bool false) ∧ Jx (pre ++ [x]) W'))
    (W : World) (hBs : W.cell? ⟨Bs, 0, none⟩ = some (.slice (some ⟨b, off, none⟩) L cap)) (hBn : W.cell? ⟨Bn, 0, none⟩ = some (.int .i64 11)) (h0 : J [] W) :
    CallsIn F n Tryd.prog 86 #[.func (.yield l) #[] #[], .pointer (some ⟨Bs, 0, none⟩), .pointer (some ⟨Bn, 0, none⟩)] W fun e W' => (∃ v, e = .returned v) ∧
      ((∃ ys, ys = ofs N ∧ J ys W') ∨ (∃ pre, (∃ k, k ≤ N ∧ pre = ofs k) ∧ Jx pre W')) := by
  have HL := hid hL
  clear hL
  refine callsIn_of_wp Tryd.func86 rfl h7 ?_ hro
  simp only [Tryd.ntmps86, List.size_toArray, List.length_cons, List.length_nil, Nat.reduceAdd, Nat.reduceSub, Array.replicate_succ, Array.replicate_zero, List.push_toArray, List.append_toArray, List.nil_append, List.cons_append]
  gi_wp2
  gi_loopw [4] (fun i wr => ∃ k m : Nat, m = 11 * k ∧ k ≤ N ∧ i = .int .i64 (m : Int) ∧ J (ofs k) wr ∧ Keep (fun k => k = Bs ∨ k = Bn) W wr)
    (fun i _ => L + 11 - (intOf i).toNat)
  case atStart => exact ⟨0, 0, rfl, Nat.zero_le _, rfl, h0, Keep.refl _ _⟩
  case round =>
    obtain ⟨k, m, hm, hk, rfl, hJs, hnx⟩ := hrel
    have hcs := (hnx.cell (x := ⟨Bs, 0, none⟩) (.inl rfl)).trans hBs
    have hcn := (hnx.cell (x := ⟨Bn, 0, none⟩) (.inr rfl)).trans hBn
    have HM := hid hm
    have HL' := HL.out
    by_cases hlt : k < N
    · have hYk := hY _ k wr.drew (hdr _ _ hJs) (by rw [ofs_length]; exact hlt)
      rw [Nat.mod_eq_of_lt hlt, ← hm] at hYk
      obtain ⟨fn, tmps, assign, body, hy, hR⟩ := hYk
      have t1 : decide ((m : Int) < (L : Int)) = true := by simp; omega
      have hif : (11 : Int) ≤ ((L - m : Nat) : Int) := by omega
      have b1 : (m : Int) + 11 ≤ (cap : Int) := by omega
      have b3 : (m : Int) + 11 ≤ (L : Int) := by omega
      have HLT := hid hlt
      clear hm HL' hlt hk
      gi_wp2
      gi_region
      all_goals rw [if_neg (Int.not_lt.2 hif)]
      all_goals gi_wp2
      all_goals refine hR.mono ?_
      all_goals rintro e W3 (⟨rfl, hJ3, hk3⟩ | ⟨rfl, hJx3⟩)
      all_goals (first
        | (have HJ3 := hid hJ3
           have HK3 := hid hk3
           have hcn3 := (hk3.cell (x := ⟨Bn, 0, none⟩) (.inr rfl)).trans (show wr.drew.cell? ⟨Bn, 0, none⟩ = _ from hcn)
           clear hJ3 hk3 hcs hcn
           gi_wp2
           go_roundw
           case rel => exact ⟨k + 1, m + 11, by have := HM.out; omega, HLT.out, by simp, by rw [ofs_succ]; exact HJ3.out, hnx.drew.trans HK3.out⟩
           case measure => simp [intOf]; omega)
        | (have HJ3 := hid hJx3
           clear hJx3 hcs hcn
           gi_wp2
           refine bodyPost_ret (results_none rfl _ _ _) rfl ?_
           exact ⟨⟨_, rfl⟩, .inr ⟨_, ⟨k + 1, HLT.out, by rw [ofs_succ]⟩, HJ3.out⟩⟩))
    · obtain rfl : k = N := by omega
      obtain rfl : m = L := by omega
      clear hm HL' hlt hk
      gi_wp2
      go_end0
      exact ⟨⟨_, rfl⟩, .inl ⟨_, rfl, hJs⟩⟩

set_option maxRecDepth 100000 in
set_option maxHeartbeats 1000000 in
/-- slices.Chunk of bytes, at pieces of eleven. -/
theorem chunk_in (F : Fence) (n : Nat) (h5 : F.fn 63) (hro : F.round = none) (a : Option Addr) (len cap : Nat) (w : World) :
    CallsIn F n Tryd.prog 63 #[.slice a len cap, .int .i64 11] w fun e w' => e = .returned (.func (.func 86) #[] #[.pointer (some ⟨w.heap.size, 0, none⟩), .pointer (some ⟨w.heap.size + 1, 0, none⟩)]) ∧ w' = (w.alloc (.cells #[.slice a len cap] 32)).alloc (.cells #[.int .i64 11] 3) := by
  refine callsIn_of_wp Tryd.func63 rfl h5 ?_ hro
  simp only [Tryd.ntmps63, List.size_toArray, List.length_cons, List.length_nil, Nat.reduceAdd, Nat.reduceSub, Array.replicate_succ, Array.replicate_zero, List.push_toArray, List.append_toArray, List.nil_append, List.cons_append]
  gi_wp2
  go_ret
  exact ⟨rfl, rfl⟩
/-- what it hands back gives the pieces, by their numbers. -/
theorem chunk_stops (F : Fence) (n : Nat) (h7 : F.fn 86) (hro : F.round = none) (hn : 1 ≤ n) (Bs Bn b off cap N L : Nat) (hL : L = 11 * N) (hcap : L ≤ cap) (hcm : cap ≤ 9223372036854775807) (w : World) (hBsl : Bs < w.heap.size) (hBnl : Bn < w.heap.size)
    (hBs : w.cell? ⟨Bs, 0, none⟩ = some (.slice (some ⟨b, off, none⟩) L cap)) (hBn : w.cell? ⟨Bn, 0, none⟩ = some (.int .i64 11)) :
    SeqStopsK F n Tryd.prog 86 #[.pointer (some ⟨Bs, 0, none⟩), .pointer (some ⟨Bn, 0, none⟩)] (fun x : Nat => #[Value.slice (some ⟨b, off + 11 * (x % N), none⟩) 11 11]) (Keep (fun k => k = Bs ∨ k = Bn)) (fun ys => ys = ofs N) (fun pre => ∃ k, k ≤ N ∧ pre = ofs k) N w := fun l J Jx W hW hJ _ hY h0 =>
  chunk1_in F n h7 hro hn l Bs Bn b off cap N L hL hcap hcm J Jx (fun s W hs => hJ s W W.drew none hs ⟨rfl, rfl, rfl, Nat.le_refl _, fun _ _ _ => rfl⟩ (fun r e => by cases e)) hY W
    ((hW.cell (p := ⟨Bs, 0, none⟩) hBsl).trans hBs) ((hW.cell (p := ⟨Bn, 0, none⟩) hBnl).trans hBn) h0
end Go.Proofs.YtnpneippahdigaaDoor
