/-
  Step by step: 'Num' of the references 20 and 21, 'SameBytes'.
-/
import Derived.Test.YtnpneippahdigaaDoorWireC
import Derived.Test.YtnpneippahdigaaDoorMem
namespace Go.Proofs.YtnpneippahdigaaDoor
open Go.RowKit Go.Proofs.Mem

/-- so many bytes of a number, while they are written from the last one on. -/
def lowTo (q m k : Nat) : List Nat := List.replicate k 0 ++ (Sha.be8 q).drop (8 - m + k)
theorem lowTo_length (q m k : Nat) (hm : m ≤ 8) (hk : k ≤ m) : (lowTo q m k).length = m := by simp [lowTo, Sha.be8]; omega
theorem lowTo_all (q m : Nat) (hm : m ≤ 8) : lowTo q m m = List.replicate m 0 := by
  unfold lowTo
  rw [List.drop_eq_nil_of_le (by simp [Sha.be8]; omega), List.append_nil]
theorem lowTo_0 (q m : Nat) : lowTo q m 0 = (Sha.be8 q).drop (8 - m) := by simp [lowTo]
theorem lowTo_set (q m k : Nat) (hm : m ≤ 8) (hk : k < m) : (lowTo q m (k + 1)).set k ((Sha.be8 q).getD (8 - m + k) 0) = lowTo q m k := by
  have hl : 8 - m + k < (Sha.be8 q).length := by simp [Sha.be8]; omega
  unfold lowTo
  rw [List.set_append_left _ _ (by simp), List.replicate_succ', List.set_append_right _ _ (by simp), List.length_replicate, Nat.sub_self, List.append_assoc]
  congr 1
  rw [List.getD_eq_getElem?_getD, List.getElem?_eq_getElem hl, List.drop_eq_getElem_cons hl]
  rfl
theorem be8_low (q m k : Nat) (hm : m ≤ 8) (hk : k < m) : (Sha.be8 q).getD (8 - m + k) 0 = q / 256 ^ (m - (k + 1)) % 256 := by
  obtain ⟨j, hj⟩ : ∃ j, m - (k + 1) = j := ⟨_, rfl⟩
  have hi : 8 - m + k = 7 - j := by omega
  rw [hi, hj]
  have h9 : j = 0 ∨ j = 1 ∨ j = 2 ∨ j = 3 ∨ j = 4 ∨ j = 5 ∨ j = 6 ∨ j = 7 := by omega
  rcases h9 with rfl | rfl | rfl | rfl | rfl | rfl | rfl | rfl <;> simp [Sha.be8]

set_option maxRecDepth 100000 in
set_option maxHeartbeats 1000000 in
theorem rnum20_walk (n : Int) (m : Nat) (hm : m ≤ 8) (w : World) :
    Calls Tryd.prog 64 #[.int .i64 n, .int .i64 (m : Int)] w fun e w' => e = .returned (.slice (some ⟨w.heap.size, 0, none⟩) m m) ∧ w'.heap[w.heap.size]? = some (.cells (ints .u8 ((Sha.be8 (Wr.u64 n)).drop (8 - m))).toArray 5 (0, 0)) ∧ Keep (· < w.heap.size) w w' := by
  obtain ⟨i0, hi0, hz0, hs0, hb0⟩ := u8_info
  have mk : ∀ w0 : World, (Instr.makeSlice 32 (.int .i64 (m : Int)) (.int .i64 (m : Int))).run Tryd.prog w0 = .ok (.slice (some ⟨w0.heap.size, 0, none⟩) m m) (w0.alloc (.cells (ints .u8 (List.replicate m 0)).toArray 5)) := fun w0 => make_ints (P := Tryd.prog) 32 5 i0 .u8 1 Tryd.underlying32 hi0 hz0 hs0 hb0 m m (by omega) (by omega) (by omega) w0
  clear hi0 hz0 hs0 hb0
  have eu := u64_wrap n
  have hql := Wr.u64_lt n
  obtain ⟨q, hq⟩ : ∃ q, Wr.u64 n = q := ⟨_, rfl⟩
  rw [hq] at eu hql ⊢
  clear hq
  have HM := hid hm
  have ew1 : IntKind.i64.wrap ((m : Int) - 1) = (m : Int) - 1 := by rw [IntKind.wrap_i64]; omega
  clear hm
  go_enter Tryd.func64, Tryd.ntmps64
  go_wp2_with fail
  go_loopg [5, 7] m (fun k s5 s7 wr => ∃ (u : Nat) (i : Int), s5 = .int .u64 (u : Int) ∧ s7 = .int .i64 i ∧ Hid (k ≤ m ∧ u = q / 256 ^ (m - k)) ∧ i = (k : Int) - 1 ∧ u < 18446744073709551616 ∧ k ≤ 8 ∧ wr.heap[w.heap.size]? = some (.cells (ints .u8 (lowTo q m k)).toArray 5 (0, 0)) ∧ Keep (· < w.heap.size) w wr)
  case atStart => exact ⟨q, (m : Int) - 1, rfl, rfl, hid ⟨Nat.le_refl _, by rw [Nat.sub_self]; simp⟩, rfl, hql, HM.out, by rw [lowTo_all _ _ HM.out]; exact heap_alloc_new w _, (Keep.refl _ _).alloc _ (fun _ h => h)⟩
  case round =>
    obtain ⟨u, i, rfl, rfl, hu, hi, hul, hk8, ho, hko⟩ := hrel
    cases gk with
    | succ k =>
      obtain rfl : i = (k : Int) := by omega
      have hkm : k < m := hu.out.1
      have cf := frozen_at ho k
      obtain ⟨old, co⟩ : ∃ v, wr.cell? ⟨w.heap.size, k, none⟩ = some v := ⟨_, by rw [cell_at ho, ints_get _ _ _ (by rw [lowTo_length _ _ _ HM.out (by omega)]; omega)]⟩
      have HO3 := hid (And.intro ho hko)
      have b3 : (k : Int) < (m : Int) := by omega
      have ew : IntKind.i64.wrap ((k : Int) - 1) = (k : Int) - 1 := by rw [IntKind.wrap_i64]; omega
      clear ho hko hi
      go_wp2_with fail
      go_roundg k
      case measure => omega
      case rel =>
        have h1 := hu.out.2
        refine ⟨u / 256, (k : Int) - 1, by simp, rfl, hid ⟨by omega, ?_⟩, rfl, by omega, by omega, ?_, HO3.out.2.setCell _ (by simp)⟩
        · rw [h1, Nat.div_div_eq_div_mul, show m - k = m - (k + 1) + 1 by omega, Nat.pow_succ]
        · rw [set_at HO3.out.1]
          have e : ((u : Int) % 256) = (((Sha.be8 q).getD (8 - m + k) 0 : Nat) : Int) := by
            rw [be8_low q m k HM.out hkm, ← h1]; rfl
          rw [e, ← lowTo_set q m k HM.out hkm]
          exact congrArg (fun l : List Value => some (Obj.cells l.toArray _ _)) (ints_set .u8 (lowTo q m (k + 1)) k _)
    | zero =>
      obtain rfl : i = -1 := by omega
      rw [lowTo_0] at ho
      have HO2 := hid (And.intro ho hko)
      clear ho hko hi
      go_wp2_with fail
      go_ret
      exact ⟨rfl, HO2.out.1, HO2.out.2⟩
theorem rnum20_8 (n : Int) (w : World) :
    Calls Tryd.prog 64 #[.int .i64 n, .int .i64 8] w fun e w' => e = .returned (.slice (some ⟨w.heap.size, 0, none⟩) 8 8) ∧ w'.heap[w.heap.size]? = some (.cells (ints .u8 (Sha.be8 (Wr.u64 n))).toArray 5 (0, 0)) ∧ Keep (· < w.heap.size) w w' :=
  rnum20_walk n 8 (Nat.le_refl _) w

set_option maxRecDepth 100000 in
set_option maxHeartbeats 1000000 in
theorem rnum21_walk (v : Value) (xs : List Nat) (w : World) (p : Nat → Prop) (hx : ∀ x ∈ xs, x < 256) (hv : Cells w p v (ints .u8 xs)) :
    Calls Tryd.prog 78 #[v] w fun e w' => e = .returned (.int .u64 (Drw.num8 xs : Nat)) ∧ w = w' := by
  obtain ⟨a1, n1, c1, rfl, e1, m1, q1, hcc⟩ := hv
  rw [ints_length] at e1
  subst e1
  have q1' : c1 ≤ 9223372036854775807 := by simpa [maxLen] using q1
  have HCC := hid hcc
  have HX := hid hx
  clear q1 hcc hx
  go_enter Tryd.func78, Tryd.ntmps78
  go_wp2_with fail
  go_loopg [3, 8] xs.length (fun k s3 s8 wr => ∃ i u : Nat, i + k = xs.length ∧ s8 = .int .i64 (i : Int) ∧ s3 = .int .u64 (u : Int) ∧ Hid (u = Drw.num8 (xs.take i)) ∧ u < 18446744073709551616 ∧ wr = w)
  case atStart => exact ⟨0, 0, by omega, rfl, rfl, hid (by rw [List.take_zero]; rfl), by decide, rfl⟩
  case round =>
    obtain ⟨i, u, hi, rfl, rfl, hu, hul, rfl⟩ := hrel
    by_cases hlt : i < xs.length
    · obtain ⟨x, hx⟩ : ∃ x, xs.getD i 0 = x := ⟨_, rfl⟩
      obtain ⟨blk, off, rfl, hp, hc⟩ := HCC.out (by omega)
      have cx : wr.cell? ⟨blk, off + i, none⟩ = some (.int .u8 (x : Int)) := by
        rw [hc i hlt, ints_get _ _ _ hlt, hx]
      have hxl : x < 256 := by rw [← hx, List.getD_eq_getElem?_getD, List.getElem?_eq_getElem hlt]; exact HX.out _ (List.getElem_mem hlt)
      have l0 : (i : Int) < (xs.length : Int) := by omega
      have HZ := hid hx
      clear hx hc
      go_wp2_with fail
      go_roundg (gk - 1)
      case measure => omega
      case rel =>
        refine ⟨i + 1, u * 256 % 18446744073709551616 + x, by omega, by go_num, ?_, hid ?_, by omega, rfl⟩
        · congr 1; rw [IntKind.wrap_u64, IntKind.wrap_u64]; omega
        · rw [← take_snoc' xs i hlt, Drw.num8_snoc, ← hu.out, HZ.out, Wr.or_add _ _ hxl]
    · obtain rfl : i = xs.length := by omega
      have he : u = Drw.num8 xs := by have := hu.out; rwa [List.take_of_length_le (Nat.le_refl _)] at this
      have HE := hid he
      clear he
      go_wp2_with fail
      go_ret
      refine ⟨?_, rfl⟩
      rw [HE.out]
      rfl

theorem conv_bytes21 (w : World) {p : Nat → Prop} {a : Option Addr} {len cap : Nat} {xs : List Nat} (h : Cells w p (.slice a len cap) (ints .u8 xs)) :
    (convert 32 9 (.slice a len cap)).run Tryd.prog w = .ok (.string (bstr xs)) w := convert_bytes 32 5 9 Tryd.underlying32 Tryd.underlying5 Tryd.underlying9 w h
theorem bstr_beq {a b : List Nat} (ha : ∀ x ∈ a, x < 256) (hb : ∀ x ∈ b, x < 256) : ((bstr a).toList == (bstr b).toList) = decide (a = b) := by
  have e : ∀ a, (bstr a).toList = a.map UInt8.ofNat := fun a => by rw [ByteArray.toList_eq]; simp [bstr]
  rw [e, e]
  by_cases h : a = b
  · subst h; simp
  · rw [decide_eq_false h, beq_eq_false_iff_ne]
    intro h2
    apply h
    have f : ∀ l : List Nat, (∀ x ∈ l, x < 256) → (l.map UInt8.ofNat).map UInt8.toNat = l := by
      intro l hl
      rw [List.map_map]
      conv => rhs; rw [← List.map_id l]
      apply List.map_congr_left
      intro x hx
      have := hl x hx
      simp; omega
    rw [← f a ha, ← f b hb, h2]
set_option maxRecDepth 100000 in
theorem sameb_walk (u v : Value) (xs : List Nat) (w : World) (p p' : Nat → Prop) (hu : Cells w p u (ints .u8 xs)) (hv : Cells w p' v (ints .u8 xs)) :
    Calls Tryd.prog 31 #[u, v] w fun e w' => e = .returned (.bool true) ∧ w = w' := by
  obtain ⟨a, n, c, rfl⟩ := cells_form hu
  obtain ⟨a', n', c', rfl⟩ := cells_form hv
  have cu := conv_bytes21 w hu
  have cv := conv_bytes21 w hv
  have eb : ((bstr xs).toList == (bstr xs).toList) = true := by simp
  clear hu hv
  go_enter Tryd.func31, Tryd.ntmps31
  go_wp2_with fail
  go_ret
  exact ⟨rfl, rfl⟩
end Go.Proofs.YtnpneippahdigaaDoor
