/-
  The turns of a word: 'right' of package digest, 'rot' of the reference.
-/
import Derived.Test.YtnpneippahdigaaDoorProg
import Derived.Test.YtnpneippahdigaaDoorMixP
import Derived.WalkKit
import Derived.KernelRfl
namespace Go.Proofs.YtnpneippahdigaaDoor
open Go.RowKit

theorem ret_int {k : IntKind} {a b : Int} (h : a = b) : Ending.returned (.int k a) = .returned (.int k b) := by rw [h]

theorem rr_int (x p q : Nat) (hx : x < 4294967296) : bits .or .u32 ((x : Int) * (p : Int) % 4294967296) ((x : Int) / (q : Int)) = (((x * p % 4294967296) ||| (x / q) : Nat) : Int) := by
  have e1 : ((x : Int) * (p : Int) % 4294967296) = ((x * p % 4294967296 : Nat) : Int) := by rw [Int.natCast_emod, Int.natCast_mul]; rfl
  have e2 : ((x : Int) / (q : Int)) = ((x / q : Nat) : Int) := by rw [Int.natCast_ediv]
  rw [e1, e2]
  exact u32_or_nat _ _ (Nat.mod_lt _ (by decide)) (Nat.lt_of_le_of_lt (Nat.div_le_self _ _) hx)

theorem right_c (c : Nat) (hc : c ∈ [2, 6, 7, 11, 13, 17, 18, 19, 22, 25]) (x : Nat) (hx : x < 4294967296) (w : World) :
    Calls Tryd.prog 122 #[.int .u32 x, .int .i64 c] w fun e w' => e = .returned (.int .u32 (Sha.rr x c : Nat)) ∧ w = w' := by
  simp only [List.mem_cons, List.not_mem_nil, or_false] at hc
  rcases hc with rfl | rfl | rfl | rfl | rfl | rfl | rfl | rfl | rfl | rfl
  · have h : bits BinOp.and .u64 (IntKind.u64.wrap (-2)) 31 = 30 := by decide
    go_enter Tryd.func122, Tryd.ntmps122
    go_wp2
    go_ret
    exact ⟨ret_int (rr_int x 1073741824 4 hx), rfl⟩
  · have h : bits BinOp.and .u64 (IntKind.u64.wrap (-6)) 31 = 26 := by decide
    go_enter Tryd.func122, Tryd.ntmps122
    go_wp2
    go_ret
    exact ⟨ret_int (rr_int x 67108864 64 hx), rfl⟩
  · have h : bits BinOp.and .u64 (IntKind.u64.wrap (-7)) 31 = 25 := by decide
    go_enter Tryd.func122, Tryd.ntmps122
    go_wp2
    go_ret
    exact ⟨ret_int (rr_int x 33554432 128 hx), rfl⟩
  · have h : bits BinOp.and .u64 (IntKind.u64.wrap (-11)) 31 = 21 := by decide
    go_enter Tryd.func122, Tryd.ntmps122
    go_wp2
    go_ret
    exact ⟨ret_int (rr_int x 2097152 2048 hx), rfl⟩
  · have h : bits BinOp.and .u64 (IntKind.u64.wrap (-13)) 31 = 19 := by decide
    go_enter Tryd.func122, Tryd.ntmps122
    go_wp2
    go_ret
    exact ⟨ret_int (rr_int x 524288 8192 hx), rfl⟩
  · have h : bits BinOp.and .u64 (IntKind.u64.wrap (-17)) 31 = 15 := by decide
    go_enter Tryd.func122, Tryd.ntmps122
    go_wp2
    go_ret
    exact ⟨ret_int (rr_int x 32768 131072 hx), rfl⟩
  · have h : bits BinOp.and .u64 (IntKind.u64.wrap (-18)) 31 = 14 := by decide
    go_enter Tryd.func122, Tryd.ntmps122
    go_wp2
    go_ret
    exact ⟨ret_int (rr_int x 16384 262144 hx), rfl⟩
  · have h : bits BinOp.and .u64 (IntKind.u64.wrap (-19)) 31 = 13 := by decide
    go_enter Tryd.func122, Tryd.ntmps122
    go_wp2
    go_ret
    exact ⟨ret_int (rr_int x 8192 524288 hx), rfl⟩
  · have h : bits BinOp.and .u64 (IntKind.u64.wrap (-22)) 31 = 10 := by decide
    go_enter Tryd.func122, Tryd.ntmps122
    go_wp2
    go_ret
    exact ⟨ret_int (rr_int x 1024 4194304 hx), rfl⟩
  · have h : bits BinOp.and .u64 (IntKind.u64.wrap (-25)) 31 = 7 := by decide
    go_enter Tryd.func122, Tryd.ntmps122
    go_wp2
    go_ret
    exact ⟨ret_int (rr_int x 128 33554432 hx), rfl⟩

/-- the same, as a region that draws its order wants it: the number as it stands there. -/
theorem right_s (c : Nat) (ci : Int) (hc : c ∈ [2, 6, 7, 11, 13, 17, 18, 19, 22, 25] ∧ ci = (c : Int)) (x : Nat) (hx : x < 4294967296) (w : World) :
    Calls Tryd.prog 122 #[.int .u32 x, .int .i64 ci] w fun e w' => e = .returned (.int .u32 (Sha.rr x c : Nat)) ∧ w' = w := by
  obtain ⟨hc, rfl⟩ := hc
  exact (right_c c hc x hx w).mono fun _ _ ⟨h1, h2⟩ => ⟨h1, h2.symm⟩
end Go.Proofs.YtnpneippahdigaaDoor
