/-
  Step by step: the reference's 'below' and 'fraction': the first bits of roots of small numbers.
-/
import Derived.Test.YtnpneippahdigaaDoorProg
import Derived.Test.YtnpneippahdigaaDoorRef3
import Derived.Test.YtnpneippahdigaaDoorMem
import Derived.KernelRfl
import Derived.Deep.LoopGhost
import Derived.Deep.DeepCutAuto
import Derived.Lib.Mul64
import Derived.Laws.Bits64b
import Derived.Laws.Externs
namespace Go.Proofs.YtnpneippahdigaaDoor
open Go.RowKit Go.Proofs.Mem


theorem maskN (a : Nat) (ha : a < 18446744073709551616) : bits .and .u64 (a : Int) 4294967295 = ((a % 4294967296 : Nat) : Int) := by
  have h := bits_and_u64_nat a 4294967295 ha (by omega)
  have e : a &&& 4294967295 = a % 4294967296 := Nat.and_two_pow_sub_one_eq_mod a 32
  rw [e] at h
  exact h
theorem divN (a : Nat) : (a : Int) / 4294967296 = ((a / 4294967296 : Nat) : Int) := by omega
theorem mulN (a b : Nat) : (a : Int) * (b : Int) = ((a * b : Nat) : Int) := (Int.natCast_mul a b).symm
theorem addN (a b : Nat) : (a : Int) + (b : Int) = ((a + b : Nat) : Int) := (Int.natCast_add a b).symm
theorem wrapN (a : Nat) (ha : a < 18446744073709551616) : IntKind.u64.wrap (a : Int) = (a : Int) := by rw [IntKind.wrap_u64]; omega
theorem wrapM (a : Nat) : IntKind.u64.wrap (a : Int) = ((a % 18446744073709551616 : Nat) : Int) := by rw [IntKind.wrap_u64]; omega

set_option maxHeartbeats 1000000 in
theorem mul64_walk (x y : Nat) (hx : x < 18446744073709551616) (hy : y < 18446744073709551616) (w : World) :
    Calls Tryd.prog 103 #[.int .u64 x, .int .u64 y] w fun e w' => e = .returned (.tuple #[.int .u64 ((x * y / 18446744073709551616 : Nat) : Int), .int .u64 ((x * y % 18446744073709551616 : Nat) : Int)]) ∧ w = w' := by
  obtain ⟨bd, bt, bw, hhi⟩ := Lib.mul64_hi x y hx hy
  have ba := Lib.half_mul_le (a := x / 4294967296) (b := y / 4294967296) (by omega) (by omega)
  have bb := Lib.half_mul_le (a := x / 4294967296) (b := y % 4294967296) (by omega) (by omega)
  have bc := Lib.half_mul_le (a := x % 4294967296) (b := y / 4294967296) (by omega) (by omega)
  have ba' : x / 4294967296 * (y / 4294967296) < 18446744073709551616 := by omega
  have bb' : x / 4294967296 * (y % 4294967296) < 18446744073709551616 := by omega
  have bc' : x % 4294967296 * (y / 4294967296) < 18446744073709551616 := by omega
  have bh1 : x / 4294967296 * (y / 4294967296) + (x / 4294967296 * (y % 4294967296) + x % 4294967296 * (y % 4294967296) / 4294967296) / 4294967296 < 18446744073709551616 := by omega
  have bh : x / 4294967296 * (y / 4294967296) + (x / 4294967296 * (y % 4294967296) + x % 4294967296 * (y % 4294967296) / 4294967296) / 4294967296 + ((x / 4294967296 * (y % 4294967296) + x % 4294967296 * (y % 4294967296) / 4294967296) % 4294967296 + x % 4294967296 * (y / 4294967296)) / 4294967296 < 18446744073709551616 := by omega
  go_enter Tryd.func103, Tryd.ntmps103
  go_wp2
  simp only [maskN x hx, maskN y hy, divN, mulN, addN, wrapN _ bd, wrapN _ bb', wrapN _ bt, maskN _ bt, wrapN _ bc', wrapN _ bw, wrapN _ ba', wrapN _ bh1, wrapN _ bh, wrapM (x * y)]
  rw [hhi]
  go_ret2
  exact ⟨rfl, rfl⟩

theorem add64_run (x y : Nat) (w : World) :
    (callFunc 104 #[.int .u64 x, .int .u64 y, .int .u64 0]).run Tryd.prog w = .ok (.value (.tuple #[.int .u64 (((x + y) % 18446744073709551616 : Nat) : Int), .int .u64 (((x + y) / 18446744073709551616 : Nat) : Int)])) w := by
  have := run_add64 (P := Tryd.prog) x y 0 (by omega) (by omega) (by omega) (by omega) w
  rw [run_callFunc_extern Tryd.func104 (by kernel_rfl) (by kernel_rfl) (by kernel_rfl) (e := add64Entry) (by kernel_rfl), this]
  simp only [Result.andThen]
  congr 5 <;> omega

theorem sh32 (p : Nat) (hp : p < 1000) : Op.shift .shl .u64 (p : Int) .u64 32 = pure (.int .u64 ((p * 4294967296 : Nat) : Int)) := by
  rw [shift_shl_u64 (x := (p : Int)) (y := 32) (yk := .u64) (by decide) (by decide)]
  have : IntKind.u64.wrap ((p : Int) * 2 ^ (32 : Int).toNat) = ((p * 4294967296 : Nat) : Int) := by
    rw [IntKind.wrap_u64]
    have e : (2 : Int) ^ (32 : Int).toNat = 4294967296 := by decide
    rw [e]; omega
  rw [this]

set_option maxRecDepth 100000 in
set_option maxHeartbeats 1000000 in
theorem below_walk (r p k : Nat) (hr : r < 137438953472) (hp : p < 1000) (hk : k = 2 ∨ k = 3) (w : World) :
    Calls Tryd.prog 90 #[.int .u64 r, .int .u64 p, .int .i64 k] w fun e w' => e = .returned (.bool (Ref3.below r p k)) ∧ w = w' := by
  obtain ⟨hi, hhi⟩ : ∃ x, r * r / 18446744073709551616 = x := ⟨_, rfl⟩
  obtain ⟨lo, hlo⟩ : ∃ x, r * r % 18446744073709551616 = x := ⟨_, rfl⟩
  have hi1 : hi < 1024 := by
    have : r * r ≤ 137438953471 * 137438953471 := Nat.mul_le_mul (by omega) (by omega)
    omega
  have lo1 : lo < 18446744073709551616 := by omega
  have B := hid (show Ref3.below r p k = if k = 2 then decide (hi < p) || (decide (hi = p) && decide (lo = 0)) else decide ((lo * r / 18446744073709551616 + hi * r % 18446744073709551616) / 18446744073709551616 = 0)
    && (decide ((lo * r / 18446744073709551616 + hi * r % 18446744073709551616) % 18446744073709551616 < p * 4294967296) || (decide ((lo * r / 18446744073709551616 + hi * r % 18446744073709551616) % 18446744073709551616 = p * 4294967296) && decide (lo * r % 18446744073709551616 = 0))) by
      unfold Ref3.below; rw [hhi, hlo])
  have M1 := hid (mul64_walk r r (by omega) (by omega))
  rw [hhi, hlo] at M1
  have M2 := hid (mul64_walk lo r lo1 (by omega))
  have M3 := hid (mul64_walk hi r (by omega) (by omega))
  clear hhi hlo lo1
  have HI := hid hi1
  clear hi1
  obtain ⟨a, ha⟩ : ∃ x, lo * r / 18446744073709551616 = x := ⟨_, rfl⟩
  obtain ⟨b, hb⟩ : ∃ x, lo * r % 18446744073709551616 = x := ⟨_, rfl⟩
  obtain ⟨c, hc⟩ : ∃ x, hi * r % 18446744073709551616 = x := ⟨_, rfl⟩
  obtain ⟨c', hc'⟩ : ∃ x, hi * r / 18446744073709551616 = x := ⟨_, rfl⟩
  rw [ha, hb] at M2
  rw [hc, hc'] at M3
  rw [ha, hb, hc] at B
  clear ha hb hc hc'
  have A1 := hid (add64_run a c)
  obtain ⟨t, ht⟩ : ∃ x, (a + c) % 18446744073709551616 = x := ⟨_, rfl⟩
  obtain ⟨cy, hcy⟩ : ∃ x, (a + c) / 18446744073709551616 = x := ⟨_, rfl⟩
  rw [ht, hcy] at A1 B
  clear ht hcy
  have hs := sh32 p hp
  go_enter Tryd.func90, Tryd.ntmps90
  go_wp2_with fail
  refine (M1.out w).mono ?_
  rintro e w1 ⟨rfl, rfl⟩
  rcases hk with rfl | rfl
  · by_cases g1 : hi < p
    · go_wp2_with fail
      go_ret
      refine ⟨?_, rfl⟩
      rw [B.out]
      simp [g1]
    · by_cases g2 : hi = p
      · subst g2
        by_cases g3 : lo = 0
        · subst g3
          go_wp2_with fail
          go_ret
          refine ⟨?_, rfl⟩
          rw [B.out]
          simp
        · have g3' : ((lo : Int) == 0) = false := by simp; omega
          go_wp2_with fail
          go_ret
          refine ⟨?_, rfl⟩
          rw [B.out]
          simp [g3]
      · have g2' : ((hi : Int) == (p : Int)) = false := by simp; omega
        go_wp2_with fail
        go_ret
        refine ⟨?_, rfl⟩
        rw [B.out]
        simp [g1, g2]
  · go_wp2_with fail
    refine (M2.out w).mono ?_
    rintro e w1 ⟨rfl, rfl⟩
    go_wp2_with fail
    refine (M3.out w).mono ?_
    rintro e w1 ⟨rfl, rfl⟩
    obtain ⟨P2, hP2⟩ : ∃ x, p * 4294967296 = x := ⟨_, rfl⟩
    rw [hP2] at hs B
    go_wp2_with fail
    rw [A1.out]
    by_cases g1 : cy = 0
    · have g1' : ((cy : Int) == 0) = true := by simp; omega
      by_cases g2 : t < P2
      · go_wp2_with fail
        go_ret
        refine ⟨?_, rfl⟩
        rw [B.out]
        simp [g1, g2]
      · by_cases g3 : t = P2
        · subst g3
          by_cases g4 : b = 0
          · subst g4
            go_wp2_with fail
            go_ret
            refine ⟨?_, rfl⟩
            rw [B.out]
            simp [g1]
          · have g4' : ((b : Int) == 0) = false := by simp; omega
            go_wp2_with fail
            go_ret
            refine ⟨?_, rfl⟩
            rw [B.out]
            simp [g1, g4]
        · have g3' : ((t : Int) == (P2 : Int)) = false := by simp; omega
          go_wp2_with fail
          go_ret
          refine ⟨?_, rfl⟩
          rw [B.out]
          simp [g1, g2, g3]
    · have g1' : ((cy : Int) == 0) = false := by simp; omega
      go_wp2_with fail
      go_ret
      refine ⟨?_, rfl⟩
      rw [B.out]
      simp [g1]

set_option maxRecDepth 100000 in
set_option maxHeartbeats 1000000 in
theorem fraction_walk (p k : Nat) (hp : p < 1000) (hk : k = 2 ∨ k = 3) (w : World) :
    Calls Tryd.prog 77 #[.int .u64 p, .int .i64 k] w fun e w' => e = .returned (.int .u32 (Ref3.frac p k : Nat)) ∧ w = w' := by
  obtain ⟨F, hF⟩ : ∃ F, Ref3.halves p k 37 0 = F := ⟨_, rfl⟩
  have HF := hid hF
  have HR := hid (show Ref3.frac p k = F % 4294967296 by rw [← hF]; rfl)
  clear hF
  go_enter Tryd.func77, Tryd.ntmps77
  go_wp2_with fail
  go_loopg [5, 6] 37 (fun j s5 s6 wr => ∃ lo h : Nat, s5 = .int .u64 (lo : Int) ∧ s6 = .int .u64 ((lo + h : Nat) : Int) ∧ Hid (h = 2 ^ j) ∧ lo + h ≤ 137438953472 ∧ Hid (Ref3.halves p k j lo = F) ∧ w = wr)
  case atStart => exact ⟨0, 137438953472, rfl, rfl, by rfl, by omega, HF, rfl⟩
  case round =>
    obtain ⟨lo, h, rfl, rfl, hh, hlt, hv, rfl⟩ := hrel
    obtain ⟨hi, hhi⟩ : ∃ hi, lo + h = hi := ⟨_, rfl⟩
    rw [hhi] at hlt ⊢
    have hle : lo ≤ hi := by omega
    have HH := hid hhi
    clear hhi
    cases gk with
    | zero =>
      have h1 := hh.out
      have h2 := HH.out
      have t1 : decide ((1 : Int) < (hi : Int) - (lo : Int)) = false := by simp; omega
      go_wp2_with fail
      go_ret
      refine ⟨?_, rfl⟩
      have h3 : lo = F := hv.out
      have h4 := HR.out
      rw [h4, ← h3, Int.natCast_emod]
      rfl
    | succ k' =>
      obtain ⟨g, hg⟩ : ∃ g, 2 ^ k' = g := ⟨_, rfl⟩
      have h1 := hh.out
      rw [Nat.pow_succ, hg] at h1
      have hg0 : 0 < g := by rw [← hg]; exact Nat.two_pow_pos _
      have h2 := HH.out
      have t1 : decide ((1 : Int) < (hi : Int) - (lo : Int)) = true := by simp; omega
      obtain ⟨m, hm⟩ : ∃ m, lo + g = m := ⟨_, rfl⟩
      have m1 : ((lo : Int) + (hi : Int)) / 2 = (m : Int) := by omega
      have mlt : m < 137438953472 := by omega
      have HV := hid (show (if Ref3.below m p k then Ref3.halves p k k' m else Ref3.halves p k k' lo) = F by
        have := hv.out
        rw [Ref3.halves, hg, hm] at this
        exact this)
      have GG := hid h1
      have HG := hid hg
      have HM := hid hm
      clear h1 h2 hg hm
      go_wp2_with fail
      refine (below_walk m p k mlt hp hk w).mono ?_
      rintro e w1 ⟨rfl, rfl⟩
      cases hb : Ref3.below m p k
      · rw [hb] at HV
        go_wp2_with fail
        go_roundg k'
        case measure => omega
        case rel => exact ⟨lo, g, rfl, by rw [HM.out], HG.out.symm, by have := HM.out; omega, HV.out, rfl⟩
      · rw [hb] at HV
        go_wp2_with fail
        go_roundg k'
        case measure => omega
        case rel => exact ⟨m, g, rfl, by rw [← HH.out, ← HM.out, GG.out]; congr 2; omega, HG.out.symm, by have := HM.out; have := GG.out; have := HH.out; omega, HV.out, rfl⟩
theorem fraction_s (p k : Nat) (hp : p < 1000) (hk : k = 2 ∨ k = 3) (w : World) :
    Calls Tryd.prog 77 #[.int .u64 p, .int .i64 k] w fun e w' => e = .returned (.int .u32 (Ref3.frac p k : Nat)) ∧ w' = w :=
  (fraction_walk p k hp hk w).mono fun _ _ h => ⟨h.1, h.2.symm⟩
end Go.Proofs.YtnpneippahdigaaDoor
