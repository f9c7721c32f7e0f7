/-
  Step by step: 'num', 'of' of package wire; 'slices.Clone', 'slices.Grow', 'slices.Concat' of bytes.
-/
import Derived.Test.YtnpneippahdigaaDoorWireP
import Derived.Test.YtnpneippahdigaaDoorMem
import Derived.Test.YtnpneippahdigaaDoorProg
import Derived.Test.YtnpneippahdigaaDoorTail
import Derived.OwnWalk
import Derived.Deep.LoopGhost
import Derived.BigQuiet
import Derived.Deep.QuietTactic
import Derived.Deep.DeepCutAuto
import Derived.Laws.Bits64b
import Derived.Lib.AppendZeros
import Derived.WalkSpells
namespace Go.Proofs.YtnpneippahdigaaDoor
open Go.RowKit Go.Proofs.Mem

theorem be8_len (n : Nat) : (Sha.be8 n).length = 8 := rfl
/-- eight bytes while they are written from the first one on. -/
def headTo (N i : Nat) : List Nat := (Sha.be8 N).take i ++ List.replicate (8 - i) 0
theorem headTo_8 (N : Nat) : headTo N 8 = Sha.be8 N := by simp [headTo, Sha.be8]
theorem headTo_0 (N : Nat) : headTo N 0 = List.replicate 8 0 := by simp [headTo]
theorem headTo_length (N i : Nat) (hi : i ≤ 8) : (headTo N i).length = 8 := by simp [headTo, Sha.be8]; omega
theorem headTo_set (N i : Nat) (hi : i < 8) : (headTo N i).set i ((Sha.be8 N).getD i 0) = headTo N (i + 1) := by
  have h : i = 0 ∨ i = 1 ∨ i = 2 ∨ i = 3 ∨ i = 4 ∨ i = 5 ∨ i = 6 ∨ i = 7 := by omega
  rcases h with rfl | rfl | rfl | rfl | rfl | rfl | rfl | rfl <;> simp [headTo, Sha.be8, List.replicate]
theorem u64_wrap (n : Int) : IntKind.u64.wrap n = (Wr.u64 n : Int) := by rw [IntKind.wrap_u64]; unfold Wr.u64; omega
theorem i64_wrap (u : Nat) (h : u < 18446744073709551616) : IntKind.i64.wrap (u : Int) = Wr.i64 u := by
  rw [IntKind.wrap_i64]; unfold Wr.i64; split <;> omega
theorem shl8' (u : Nat) : Op.shift .shl .u64 (u : Int) .u64 8 = pure (.int .u64 ((u * 256 % 18446744073709551616 : Nat) : Int)) := by
  rw [shift_shl_u64 (x := (u : Int)) (y := 8) (yk := .u64) (by decide) (by decide)]
  have : IntKind.u64.wrap ((u : Int) * 2 ^ (8 : Int).toNat) = ((u * 256 % 18446744073709551616 : Nat) : Int) := by
    rw [IntKind.wrap_u64]
    have e : (2 : Int) ^ (8 : Int).toNat = 256 := by decide
    rw [e]; omega
  rw [this]

set_option maxRecDepth 100000 in
set_option maxHeartbeats 1000000 in
theorem num_walk (n : Int) (w : World) :
    Calls Tryd.prog 72 #[.int .i64 n] w fun e w' => e = .returned (.slice (some ⟨w.heap.size, 0, none⟩) 8 8) ∧ w'.heap[w.heap.size]? = some (.cells (ints .u8 (Sha.be8 (Wr.u64 n))).toArray 5 (0, 0)) ∧ Keep (· < w.heap.size) w w' := by
  obtain ⟨i0, hi0, hz0, hs0, hb0⟩ := info_parts (show (Tryd.prog.info? 5).map (fun i => (i.zero, i.size, i.bytes)) = some (some (.int .u8 0), 1, 1) by kernel_rfl)
  have mk : ∀ w0 : World, (Instr.makeSlice 32 (.int .i64 8) (.int .i64 8)).run Tryd.prog w0 = .ok (.slice (some ⟨w0.heap.size, 0, none⟩) 8 8) (w0.alloc (.cells (ints .u8 (List.replicate 8 0)).toArray 5)) := fun w0 => make_ints (P := Tryd.prog) 32 5 i0 .u8 1 Tryd.underlying32 hi0 hz0 hs0 hb0 8 8 (by omega) (by omega) (by omega) w0
  clear hi0 hz0 hs0 hb0
  have eu := u64_wrap n
  obtain ⟨q, hq⟩ : ∃ q, Wr.u64 n = q := ⟨_, rfl⟩
  rw [hq] at eu ⊢
  clear hq
  go_enter Tryd.func72, Tryd.ntmps72
  go_wp2_with fail
  go_loopg [8] 8 (fun k s8 wr => ∃ i : Nat, i + k = 8 ∧ s8 = .int .i64 (i : Int) ∧ wr.heap[w.heap.size]? = some (.cells (ints .u8 (headTo q i)).toArray 5 (0, 0)) ∧ Keep (· < w.heap.size) w wr)
  case atStart => exact ⟨0, rfl, rfl, by rw [headTo_0]; exact heap_alloc_new w _, (Keep.refl _ _).alloc _ (fun _ h => h)⟩
  case round =>
    obtain ⟨i, hi, rfl, ho, hko⟩ := hrel
    by_cases hi8 : i < 8
    · have cf := frozen_at ho i
      obtain ⟨old, co⟩ : ∃ v, wr.cell? ⟨w.heap.size, i, none⟩ = some v := ⟨_, by rw [cell_at ho, ints_get _ _ _ (by rw [headTo_length _ _ (by omega)]; omega)]⟩
      have HO3 := hid (And.intro ho hko)
      have b3 : (0 : Int) ≤ 56 - 8 * (i : Int) := by omega
      have b4 : 56 - 8 * (i : Int) < 64 := by omega
      have l0 : (i : Int) < 8 := by omega
      obtain ⟨x, hx⟩ : ∃ x, (Sha.be8 q).getD i 0 = x := ⟨_, rfl⟩
      have hval : (q : Int) / 2 ^ (56 - 8 * (i : Int)).toNat % 256 = (x : Int) := be8_byte q i _ _ x rfl hi8 rfl hx
      have HV := hid (And.intro hx hval)
      clear ho hko hx hval
      go_wp2_with fail
      go_roundg (gk - 1)
      case measure => omega
      case rel =>
        refine ⟨i + 1, by omega, by go_num, ?_, HO3.out.2.setCell _ (by simp)⟩
        rw [set_at HO3.out.1]
        have e : ((q : Int) / 2 ^ (56 - 8 * i) % 256) = (((Sha.be8 q).getD i 0 : Nat) : Int) := by
          rw [HV.out.1, ← HV.out.2, show (56 - 8 * (i : Int)).toNat = 56 - 8 * i by omega]
        rw [e]
        have := headTo_set q i hi8
        rw [← this]
        exact congrArg (fun l : List Value => some (Obj.cells l.toArray _ _)) (ints_set .u8 (headTo q i) i _)
    · obtain rfl : i = 8 := by omega
      rw [headTo_8] at ho
      have HO2 := hid (And.intro ho hko)
      clear ho hko
      go_wp2_with fail
      go_ret
      exact ⟨rfl, HO2.out.1, HO2.out.2⟩

set_option maxRecDepth 100000 in
set_option maxHeartbeats 1000000 in
theorem wof_walk (v : Value) (xs : List Nat) (w : World) (p : Nat → Prop) (hx : ∀ x ∈ xs, x < 256) (hv : Cells w p v (ints .u8 xs)) :
    Calls Tryd.prog 73 #[v] w fun e w' => e = .returned (.int .i64 (Wr.i64 (Drw.num8 xs))) ∧ w = w' := by
  obtain ⟨a1, n1, c1, rfl, e1, m1, q1, hcc⟩ := hv
  rw [ints_length] at e1
  subst e1
  have q1' : c1 ≤ 9223372036854775807 := by simpa [maxLen] using q1
  have HCC := hid hcc
  have HX := hid hx
  clear q1 hcc hx
  go_enter Tryd.func73, Tryd.ntmps73
  go_wp2_with fail
  go_loopg [3, 8] xs.length (fun k s3 s8 wr => ∃ i u : Nat, i + k = xs.length ∧ s8 = .int .i64 (i : Int) ∧ s3 = .int .u64 (u : Int) ∧ Hid (u = Drw.num8 (xs.take i)) ∧ u < 18446744073709551616 ∧ wr = w)
  case atStart => exact ⟨0, 0, by omega, rfl, rfl, hid (by rw [List.take_zero]; rfl), by decide, rfl⟩
  case round =>
    obtain ⟨i, u, hi, rfl, rfl, hu, hul, rfl⟩ := hrel
    by_cases hlt : i < xs.length
    · obtain ⟨x, hx⟩ : ∃ x, xs.getD i 0 = x := ⟨_, rfl⟩
      obtain ⟨blk, off, rfl, hp, hc⟩ := HCC.out (by omega)
      have cx : wr.cell? ⟨blk, off + i, none⟩ = some (.int .u8 (x : Int)) := by
        rw [hc i hlt, ints_get _ _ _ hlt, hx]
      have hxl : x < 256 := by rw [← hx, List.getD_eq_getElem?_getD, List.getElem?_eq_getElem hlt]; exact HX.out _ (List.getElem_mem hlt)
      have l0 : (i : Int) < (xs.length : Int) := by omega
      have sh := shl8' u
      obtain ⟨z, hz⟩ : ∃ z, (u * 256 % 18446744073709551616) ||| x = z := ⟨_, rfl⟩
      have hzl : z < 18446744073709551616 := by rw [← hz]; exact Drw.or_lt _ _ (Nat.mod_lt _ (by decide)) (by omega)
      have HZ := hid (And.intro hx hz)
      clear hx hc hz
      go_wp2_with fail
      go_roundg (gk - 1)
      case measure => omega
      case rel =>
        have eo : bits .or .u64 ((u : Int) * 256 % 18446744073709551616) (x : Int) = (z : Int) := by
          have := bits_or_u64_nat (u * 256 % 18446744073709551616) x (Nat.mod_lt _ (by decide)) (by omega)
          rw [HZ.out.2] at this
          simpa using this
        refine ⟨i + 1, z, by omega, by go_num, by rw [eo], hid ?_, hzl, rfl⟩
        rw [← take_snoc' xs i hlt, Drw.num8_snoc, ← hu.out, HZ.out.1, HZ.out.2]
    · obtain rfl : i = xs.length := by omega
      have ew := i64_wrap u hul
      have he : u = Drw.num8 xs := by have := hu.out; rwa [List.take_of_length_le (Nat.le_refl _)] at this
      have HE := hid he
      clear he
      go_wp2_with fail
      go_ret
      refine ⟨?_, rfl⟩
      rw [HE.out]
      rfl
end Go.Proofs.YtnpneippahdigaaDoor
