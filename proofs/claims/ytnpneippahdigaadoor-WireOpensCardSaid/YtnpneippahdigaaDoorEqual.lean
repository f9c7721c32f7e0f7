/-
  Step by step: 'Equal' of package digest: it tells whether two rows of bytes are the same row.
-/
import Derived.Test.YtnpneippahdigaaDoorProg
import Derived.Test.YtnpneippahdigaaDoorMem
import Derived.BigQuiet
import Derived.Deep.LoopGhost
import Derived.Deep.QuietTactic
import Derived.Deep.DeepCutAuto
import Derived.Laws.BitsAllLaws
namespace Go.Proofs.YtnpneippahdigaaDoor
open Go.RowKit Go.Proofs.Mem

theorem i64_nat (n : Nat) (h : n < 9223372036854775808) : IntKind.i64.wrap (n : Int) = n := IntWalk.i64_in _ (by omega)
theorem ofInt_i64 (a : Nat) (ha : a < 9223372036854775808) : (BitVec.ofInt 64 (a : Int)).toNat = a := by
  rw [BitVec.ofInt_natCast, BitVec.toNat_ofNat]; exact Nat.mod_eq_of_lt (by omega)
theorem i64_or (a b : Nat) (ha : a < 9223372036854775808) (hb : b < 9223372036854775808) : bits .or .i64 (a : Int) (b : Int) = ((a ||| b : Nat) : Int) := by
  have hx : a ||| b < 2 ^ 63 := Nat.or_lt_two_pow (by omega) (by omega)
  show IntKind.i64.wrap ((BitVec.ofInt 64 (a : Int) ||| BitVec.ofInt 64 (b : Int)).toNat : Int) = _
  rw [BitVec.toNat_or, ofInt_i64 a ha, ofInt_i64 b hb]
  exact i64_nat _ (by omega)
theorem i64_xor (a b : Nat) (ha : a < 9223372036854775808) (hb : b < 9223372036854775808) : bits .xor .i64 (a : Int) (b : Int) = ((a ^^^ b : Nat) : Int) := by
  have hx : a ^^^ b < 2 ^ 63 := Nat.xor_lt_two_pow (by omega) (by omega)
  show IntKind.i64.wrap ((BitVec.ofInt 64 (a : Int) ^^^ BitVec.ofInt 64 (b : Int)).toNat : Int) = _
  rw [BitVec.toNat_xor, ofInt_i64 a ha, ofInt_i64 b hb]
  exact i64_nat _ (by omega)

theorem or_zero_iff (a b : Nat) : a ||| b = 0 ↔ a = 0 ∧ b = 0 := by
  constructor
  · intro h
    have h1 : a ≤ a ||| b := Nat.left_le_or
    have h2 : b ≤ a ||| b := Nat.right_le_or
    omega
  · rintro ⟨rfl, rfl⟩; rfl
theorem xor_zero_iff (a b : Nat) : a ^^^ b = 0 ↔ a = b := by
  constructor
  · intro h
    have : a ^^^ b ^^^ b = 0 ^^^ b := by rw [h]
    rwa [Nat.xor_assoc, Nat.xor_self, Nat.xor_zero, Nat.zero_xor] at this
  · rintro rfl; exact Nat.xor_self _

/-- one place more. -/
theorem equal_step (u : Nat) (a b : List Nat) (i : Nat) (ha : i < a.length) (hb : i < b.length) (h : u = 0 ↔ a.length = b.length ∧ a.take i = b.take i) :
    (u ||| (a.getD i 0 ^^^ b.getD i 0) = 0) ↔ a.length = b.length ∧ a.take (i + 1) = b.take (i + 1) := by
  rw [or_zero_iff, xor_zero_iff, h, List.take_add_one, List.take_add_one, List.getD_eq_getElem?_getD, List.getD_eq_getElem?_getD, List.getElem?_eq_getElem ha, List.getElem?_eq_getElem hb]
  simp only [Option.getD_some, Option.toList_some]
  constructor
  · rintro ⟨⟨h1, h2⟩, h3⟩
    exact ⟨h1, by rw [h2, h3]⟩
  · rintro ⟨h1, h2⟩
    have h3 := List.append_inj' h2 rfl
    exact ⟨⟨h1, h3.1⟩, by simpa using h3.2⟩

theorem u8_get {a : List Nat} (h : ∀ x ∈ a, x < 256) (i : Nat) : a.getD i 0 < 256 := by
  rw [List.getD_eq_getElem?_getD]
  cases hi : a[i]? with
  | none => decide
  | some x => exact h x (List.mem_of_getElem? hi)

theorem min2_ints (k k' : IntKind) (x y : Int) : Builtin.min2 (.int k x) (.int k' y) = pure (.int k (if y < x then y else x)) := by simp only [Builtin.min2]
theorem min_of_two (ats : Array TypeId) (ty : TypeId) (a b : Value) : Builtin.min_ ats ty #[a, b] = (Builtin.min2 a b >>= fun s => pure s) := by simp only [Builtin.min_, List.foldlM_cons, List.foldlM_nil]
attribute [local go_sem] min2_ints min_of_two

set_option maxRecDepth 100000 in
set_option maxHeartbeats 1000000 in
theorem equal_walk (u v : Value) (a b : List Nat) (w : World) (p p' : Nat → Prop) (ha : ∀ x ∈ a, x < 256) (hb : ∀ x ∈ b, x < 256) (hu : Cells w p u (ints .u8 a)) (hv : Cells w p' v (ints .u8 b)) :
    Calls Tryd.prog 70 #[u, v] w fun e w' => e = .returned (.bool (decide (a = b))) ∧ Keep (fun k => True) w w' := by
  have Hu := hid hu
  have Hv := hid hv
  have HA := hid (u8_get ha)
  have HB := hid (u8_get hb)
  clear ha hb hu hv
  obtain ⟨a1, n1, c1, rfl, e1, m1, q1, f1⟩ := Hu.out
  obtain ⟨a2, n2, c2, rfl, e2, m2, q2, f2⟩ := Hv.out
  rw [ints_length] at e1 e2
  subst e1 e2
  have q1' : c1 ≤ 9223372036854775807 := by simpa [maxLen] using q1
  have q2' : c2 ≤ 9223372036854775807 := by simpa [maxLen] using q2
  have F1 := hid f1
  have F2 := hid f2
  clear q1 q2 f1 f2
  obtain ⟨x0, hx0⟩ : ∃ x, a.length ^^^ b.length = x := ⟨_, rfl⟩
  have x0l : x0 < 9223372036854775808 := by rw [← hx0]; exact Nat.xor_lt_two_pow (n := 63) (by omega) (by omega)
  have ex : bits .xor .i64 (a.length : Int) (b.length : Int) = (x0 : Int) := by rw [← hx0]; exact i64_xor _ _ (by omega) (by omega)
  have E0 := hid (show x0 = 0 ↔ a.length = b.length ∧ a.take 0 = b.take 0 by rw [← hx0, xor_zero_iff]; simp)
  clear hx0
  obtain ⟨m, hm⟩ : ∃ m, min a.length b.length = m := ⟨_, rfl⟩
  have m1' : m ≤ a.length := by omega
  have m2' : m ≤ b.length := by omega
  have hmn : (if b.length < a.length then (b.length : Int) else (a.length : Int)) = (m : Int) := by split <;> omega
  have HM := hid hm
  clear hm
  go_enter Tryd.func70, Tryd.ntmps70
  go_wp2_with fail
  go_loopg [5, 17] m (fun k s5 s17 wr => ∃ i u : Nat, k + i = m ∧ s17 = .int .i64 (i : Int) ∧ s5 = .int .i64 (u : Int) ∧ u < 9223372036854775808 ∧ Hid (u = 0 ↔ a.length = b.length ∧ a.take i = b.take i) ∧ Keep (fun _ => True) w wr)
  case atStart => exact ⟨0, x0, rfl, rfl, rfl, x0l, E0, Keep.refl _ _⟩
  case round =>
    obtain ⟨i, u, hk, rfl, rfl, hul, HU, hK⟩ := hrel
    have HK := hid hK
    clear hK
    by_cases h0 : i < m
    · obtain ⟨k', rfl⟩ : ∃ k', gk = k' + 1 := ⟨gk - 1, by omega⟩
      obtain ⟨b1, o1, rfl, _, g1⟩ := F1.out (by omega)
      obtain ⟨b2, o2, rfl, _, g2⟩ := F2.out (by omega)
      have ha := HA.out i
      have hb := HB.out i
      have y1 : wr.cell? ⟨b1, o1 + i, none⟩ = some (.int .u8 (a.getD i 0 : Nat)) := by rw [HK.out.cell trivial, g1 i (by omega), ints_get _ _ _ (by omega)]
      have y2 : wr.cell? ⟨b2, o2 + i, none⟩ = some (.int .u8 (b.getD i 0 : Nat)) := by rw [HK.out.cell trivial, g2 i (by omega), ints_get _ _ _ (by omega)]
      have HS := hid (equal_step u a b i (by omega) (by omega) HU.out)
      clear g1 g2
      obtain ⟨xa, hxa⟩ : ∃ x, a.getD i 0 = x := ⟨_, rfl⟩
      obtain ⟨xb, hxb⟩ : ∃ x, b.getD i 0 = x := ⟨_, rfl⟩
      rw [hxa] at y1 ha
      rw [hxb] at y2 hb
      rw [hxa, hxb] at HS
      obtain ⟨z, hz⟩ : ∃ z, xa ^^^ xb = z := ⟨_, rfl⟩
      have zl : z < 256 := by rw [← hz]; exact Nat.xor_lt_two_pow (n := 8) ha hb
      have e1 : bits .xor .u8 (xa : Int) (xb : Int) = (z : Int) := by rw [← hz]; exact u8_xor_nat _ _ ha hb
      rw [hz] at HS
      have e3 : IntKind.i64.wrap (z : Int) = z := i64_nat _ (by omega)
      obtain ⟨u', hu'⟩ : ∃ z', u ||| z = z' := ⟨_, rfl⟩
      have e2 : bits .or .i64 (u : Int) (z : Int) = (u' : Int) := by rw [← hu']; exact i64_or _ _ hul (by omega)
      have ul : u' < 9223372036854775808 := by rw [← hu']; exact Nat.or_lt_two_pow (n := 63) hul (by omega)
      rw [hu'] at HS
      have t1 : decide ((i : Int) < (m : Int)) = true := by simp; omega
      have w1 : IntKind.i64.wrap ((i : Int) + 1) = ((i + 1 : Nat) : Int) := i64_of (by omega) (by omega)
      have n1 : (i : Int) < (a.length : Int) := by omega
      have n2 : (i : Int) < (b.length : Int) := by omega
      clear hxa hxb hz hu'
      go_wp2_with fail
      go_quiet (fail)
      go_wp2_with fail
      go_roundg k'
      case measure => omega
      case rel => exact ⟨i + 1, u', by omega, by simp, rfl, ul, HS, HK.out.drewN _⟩
    · obtain rfl : i = m := by omega
      have t1 : decide ((i : Int) < (i : Int)) = false := by simp
      by_cases hu0 : u = 0
      · subst hu0
        have hab : a = b := by
          obtain ⟨h1, h2⟩ := HU.out.1 rfl
          have := HM.out
          rwa [List.take_of_length_le (by omega), List.take_of_length_le (by omega)] at h2
        go_wp2_with fail
        go_ret
        exact ⟨rfl, HK.out⟩
      · have t2 : ((u : Int) == 0) = false := by simp; omega
        have hab : ¬ a = b := by
          rintro rfl
          exact hu0 (HU.out.2 ⟨rfl, rfl⟩)
        go_wp2_with fail
        go_ret
        refine ⟨?_, HK.out⟩
        first | rfl | (rw [decide_eq_false hab]; rfl)
end Go.Proofs.YtnpneippahdigaaDoor
