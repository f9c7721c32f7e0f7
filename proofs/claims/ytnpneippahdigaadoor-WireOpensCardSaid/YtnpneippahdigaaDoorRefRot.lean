/-
  Step by step: the reference's 'rot'.
-/
import Derived.Test.YtnpneippahdigaaDoorRot
namespace Go.Proofs.YtnpneippahdigaaDoor
open Go.RowKit

theorem rr_int' (x p q : Nat) (hx : x < 4294967296) : bits .or .u32 ((x : Int) / (q : Int)) ((x : Int) * (p : Int) % 4294967296) = (((x * p % 4294967296) ||| (x / q) : Nat) : Int) := by
  have e1 : ((x : Int) * (p : Int) % 4294967296) = ((x * p % 4294967296 : Nat) : Int) := by rw [Int.natCast_emod, Int.natCast_mul]; rfl
  have e2 : ((x : Int) / (q : Int)) = ((x / q : Nat) : Int) := by rw [Int.natCast_ediv]
  rw [e1, e2, Nat.or_comm (x * p % 4294967296)]
  exact u32_or_nat _ _ (Nat.lt_of_le_of_lt (Nat.div_le_self _ _) hx) (Nat.mod_lt _ (by decide))

theorem rot_c (c : Nat) (hc : c ∈ [2, 6, 7, 11, 13, 17, 18, 19, 22, 25]) (x : Nat) (hx : x < 4294967296) (w : World) :
    Calls Tryd.prog 94 #[.int .u32 x, .int .u64 c] w fun e w' => e = .returned (.int .u32 (Sha.rr x c : Nat)) ∧ w = w' := by
  simp only [List.mem_cons, List.not_mem_nil, or_false] at hc
  rcases hc with rfl | rfl | rfl | rfl | rfl | rfl | rfl | rfl | rfl | rfl
  · go_enter Tryd.func94, Tryd.ntmps94
    go_wp2
    go_ret
    exact ⟨ret_int (rr_int' x 1073741824 4 hx), rfl⟩
  · go_enter Tryd.func94, Tryd.ntmps94
    go_wp2
    go_ret
    exact ⟨ret_int (rr_int' x 67108864 64 hx), rfl⟩
  · go_enter Tryd.func94, Tryd.ntmps94
    go_wp2
    go_ret
    exact ⟨ret_int (rr_int' x 33554432 128 hx), rfl⟩
  · go_enter Tryd.func94, Tryd.ntmps94
    go_wp2
    go_ret
    exact ⟨ret_int (rr_int' x 2097152 2048 hx), rfl⟩
  · go_enter Tryd.func94, Tryd.ntmps94
    go_wp2
    go_ret
    exact ⟨ret_int (rr_int' x 524288 8192 hx), rfl⟩
  · go_enter Tryd.func94, Tryd.ntmps94
    go_wp2
    go_ret
    exact ⟨ret_int (rr_int' x 32768 131072 hx), rfl⟩
  · go_enter Tryd.func94, Tryd.ntmps94
    go_wp2
    go_ret
    exact ⟨ret_int (rr_int' x 16384 262144 hx), rfl⟩
  · go_enter Tryd.func94, Tryd.ntmps94
    go_wp2
    go_ret
    exact ⟨ret_int (rr_int' x 8192 524288 hx), rfl⟩
  · go_enter Tryd.func94, Tryd.ntmps94
    go_wp2
    go_ret
    exact ⟨ret_int (rr_int' x 1024 4194304 hx), rfl⟩
  · go_enter Tryd.func94, Tryd.ntmps94
    go_wp2
    go_ret
    exact ⟨ret_int (rr_int' x 128 33554432 hx), rfl⟩

theorem rot_s (c : Nat) (ci : Int) (hc : c ∈ [2, 6, 7, 11, 13, 17, 18, 19, 22, 25] ∧ ci = (c : Int)) (x : Nat) (hx : x < 4294967296) (w : World) :
    Calls Tryd.prog 94 #[.int .u32 x, .int .u64 ci] w fun e w' => e = .returned (.int .u32 (Sha.rr x c : Nat)) ∧ w' = w := by
  obtain ⟨hc, rfl⟩ := hc
  exact (rot_c c hc x hx w).mono fun _ _ ⟨h1, h2⟩ => ⟨h1, h2.symm⟩
end Go.Proofs.YtnpneippahdigaaDoor
