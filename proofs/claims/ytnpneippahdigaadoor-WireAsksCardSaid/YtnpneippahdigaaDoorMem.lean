/-
  Worlds and blocks: what stays, what a block of whole numbers reads as, what a store makes of it. No program in sight.
-/
import Derived.WalkKit
import Derived.Deep.Draws
namespace Go.Proofs.Mem
open Go.RowKit

theorem hid {p : Prop} (h : p) : Hid p := h

/-- w' holds what w held in every block that p names; the streams are as they were. -/
structure Keep (p : Nat → Prop) (w w' : World) : Prop where
  os : w'.os = w.os
  tape : w'.tape = w.tape
  output : w'.output = w.output
  size : w.heap.size ≤ w'.heap.size
  block : ∀ k, p k → w'.heap[k]? = w.heap[k]?

theorem Keep.refl (p : Nat → Prop) (w : World) : Keep p w w := ⟨rfl, rfl, rfl, Nat.le_refl _, fun _ _ => rfl⟩
theorem Keep.trans {p : Nat → Prop} {a b c : World} (h : Keep p a b) (k : Keep p b c) : Keep p a c :=
  ⟨k.os.trans h.os, k.tape.trans h.tape, k.output.trans h.output, Nat.le_trans h.size k.size, fun i hi => (k.block i hi).trans (h.block i hi)⟩
theorem Keep.mono {p q : Nat → Prop} {a b : World} (h : Keep p a b) (hq : ∀ k, q k → p k) : Keep q a b := ⟨h.os, h.tape, h.output, h.size, fun k hk => h.block k (hq k hk)⟩
theorem Keep.drewN {p : Nat → Prop} {a w : World} (h : Keep p a w) (n : Nat) : Keep p a (w.drewN n) := ⟨h.os, h.tape, h.output, h.size, h.block⟩
theorem Keep.drew {p : Nat → Prop} {a w : World} (h : Keep p a w) : Keep p a w.drew := ⟨h.os, h.tape, h.output, h.size, h.block⟩
theorem Keep.alloc {p : Nat → Prop} {a w : World} (h : Keep p a w) (o : Obj) (hp : ∀ k, p k → k < w.heap.size) : Keep p a (w.alloc o) :=
  h.trans ⟨rfl, rfl, rfl, by simp, fun k hk => Below.heap_alloc _ _ _ (hp k hk)⟩
theorem Keep.setCell {p : Nat → Prop} {a w : World} (h : Keep p a w) {x : Addr} (u : Value) (hp : ¬ p x.block) : Keep p a (w.setCell x u) :=
  h.trans ⟨rfl, rfl, rfl, by simp [World.setCell], fun k hk => Below.heap_setCell _ _ _ _ (fun e => hp (e ▸ hk))⟩
theorem Keep.below {B : Nat} {w w' : World} (h : Keep (· < B) w w') : Below B w w' := ⟨h.os, h.tape, h.output, h.size, h.block⟩
theorem Keep.of_below {B : Nat} {w w' : World} (h : Below B w w') : Keep (· < B) w w' := ⟨h.os, h.tape, h.output, h.size, h.block⟩
theorem Keep.grown {p : Nat → Prop} {a w w' : World} {row : Option Nat} (h : Keep p a w) (hg : w.grownBy w' row) (hp : ∀ k, p k → k < w.heap.size ∧ some k ≠ row) : Keep p a w' :=
  h.trans ⟨hg.os, hg.tape, hg.output, hg.size, fun k hk => hg.block k (hp k hk).1 (hp k hk).2⟩
theorem Keep.cell {p : Nat → Prop} {w w' : World} (h : Keep p w w') {x : Addr} (hp : p x.block) : w'.cell? x = w.cell? x := World.cell?_of_block (w := w) (h.block x.block hp)
theorem Keep.frozen {p : Nat → Prop} {w w' : World} (h : Keep p w w') {x : Addr} (hp : p x.block) : w'.frozen? x = w.frozen? x := World.frozen?_of_block (w := w) (h.block x.block hp)

/-- whole numbers as values. -/
def ints (k : IntKind) (xs : List Nat) : List Value := xs.map fun (n : Nat) => Value.int k (Int.ofNat n)
theorem ints_length (k : IntKind) (xs : List Nat) : (ints k xs).length = xs.length := by simp [ints]
theorem ints_get (k : IntKind) (xs : List Nat) (i : Nat) (h : i < xs.length) : (ints k xs)[i]? = some (.int k (xs.getD i 0 : Nat)) := by
  simp [ints, List.getElem?_map, List.getD_eq_getElem?_getD, List.getElem?_eq_getElem h]
theorem ints_set (k : IntKind) (xs : List Nat) (i v : Nat) : (ints k xs).set i (.int k (v : Int)) = ints k (xs.set i v) := by
  simp [ints, List.map_set]
theorem ints_append (k : IntKind) (xs ys : List Nat) : ints k (xs ++ ys) = ints k xs ++ ints k ys := by simp [ints]

theorem cell_at {w : World} {b : Nat} {cs : List Value} {T : TypeId} {fr : Nat × Nat} (h : w.heap[b]? = some (.cells cs.toArray T fr)) (i : Nat) : w.cell? ⟨b, i, none⟩ = cs[i]? := by
  simp [World.cell?, h]
theorem frozen_at {w : World} {b : Nat} {cs : Array Value} {T : TypeId} (h : w.heap[b]? = some (.cells cs T (0, 0))) (i : Nat) : w.frozen? ⟨b, i, none⟩ = false := by
  simp [World.frozen?, h]
theorem set_at {w : World} {b : Nat} {cs : List Value} {T : TypeId} {fr : Nat × Nat} (h : w.heap[b]? = some (.cells cs.toArray T fr)) (i : Nat) (v : Value) :
    (w.setCell ⟨b, i, none⟩ v).heap[b]? = some (.cells (cs.set i v).toArray T fr) := by
  simp [World.setCell, Array.getElem?_modify, h]
theorem heap_drewN (w : World) (n k : Nat) : (w.drewN n).heap[k]? = w.heap[k]? := rfl

/-- a sum that fits. -/
theorem i64_of {a : Int} {n : Nat} (h : a = n) (hn : (n : Int) ≤ 9223372036854775807) : IntKind.i64.wrap a = n := by
  rw [IntWalk.i64_in _ (by omega)]; exact h

/-- a value is a slice (elements of one cell each) that reads as the row cs; if it is not empty, it lies in a block that p names. -/
def Cells (w : World) (p : Nat → Prop) (v : Value) (cs : List Value) : Prop :=
  ∃ a len cap, v = .slice a len cap ∧ len = cs.length ∧ len ≤ cap ∧ cap ≤ maxLen ∧ (0 < len → ∃ blk off, a = some ⟨blk, off, none⟩ ∧ p blk ∧ ∀ i, i < len → w.cell? ⟨blk, off + i, none⟩ = cs[i]?)

theorem Cells.keep {w w' : World} {p q : Nat → Prop} {v : Value} {cs : List Value} (h : Cells w p v cs) (k : Keep q w w') (hq : ∀ b, p b → q b) : Cells w' p v cs := by
  obtain ⟨a, len, cap, rfl, h1, h2, h3, h4⟩ := h
  refine ⟨a, len, cap, rfl, h1, h2, h3, fun h0 => ?_⟩
  obtain ⟨blk, off, rfl, hp, hc⟩ := h4 h0
  exact ⟨blk, off, rfl, hp, fun i hi => (k.cell (x := ⟨blk, off + i, none⟩) (hq _ hp)).trans (hc i hi)⟩
theorem Cells.mono {w : World} {p q : Nat → Prop} {v : Value} {cs : List Value} (h : Cells w p v cs) (hq : ∀ b, p b → q b) : Cells w q v cs := by
  obtain ⟨a, len, cap, rfl, h1, h2, h3, h4⟩ := h
  refine ⟨a, len, cap, rfl, h1, h2, h3, fun h0 => ?_⟩
  obtain ⟨blk, off, rfl, hp, hc⟩ := h4 h0
  exact ⟨blk, off, rfl, hq _ hp, hc⟩
theorem Cells.lt {w : World} {p : Nat → Prop} {v : Value} {cs : List Value} (h : Cells w p v cs) : Cells w (fun b => b < w.heap.size ∧ p b) v cs := by
  obtain ⟨a, len, cap, rfl, h1, h2, h3, h4⟩ := h
  refine ⟨a, len, cap, rfl, h1, h2, h3, fun h0 => ?_⟩
  obtain ⟨blk, off, rfl, hp, hc⟩ := h4 h0
  have h5 := hc 0 h0
  rw [List.getElem?_eq_getElem (by omega)] at h5
  exact ⟨blk, off, rfl, ⟨World.block_lt_of_cell? w _ h5, hp⟩, hc⟩
theorem Cells.nil (w : World) (p : Nat → Prop) : Cells w p (.slice none 0 0) [] := ⟨none, 0, 0, rfl, rfl, Nat.le_refl _, Nat.zero_le _, fun h => absurd h (by decide)⟩
theorem Cells.len_le {w : World} {p : Nat → Prop} {v : Value} {cs : List Value} (h : Cells w p v cs) : cs.length ≤ 9223372036854775807 := by
  obtain ⟨a, len, cap, rfl, h1, h2, h3, h4⟩ := h
  unfold maxLen at h3
  omega
/-- where it is not empty. -/
theorem Cells.at_ {w : World} {p : Nat → Prop} {v : Value} {cs : List Value} (h : Cells w p v cs) (h0 : 0 < cs.length) :
    ∃ blk off cap, v = .slice (some ⟨blk, off, none⟩) cs.length cap ∧ cs.length ≤ cap ∧ cap ≤ 9223372036854775807 ∧ p blk ∧ ∀ i, i < cs.length → w.cell? ⟨blk, off + i, none⟩ = cs[i]? := by
  obtain ⟨a, len, cap, rfl, rfl, h2, h3, h4⟩ := h
  obtain ⟨blk, off, rfl, hp, hc⟩ := h4 h0
  exact ⟨blk, off, cap, rfl, h2, by simpa [maxLen] using h3, hp, hc⟩
/-- a part of a block. -/
theorem Cells.of_block {w : World} {b off n cap : Nat} {cur : List Value} {T : TypeId} {fr : Nat × Nat} {p : Nat → Prop} (h : w.heap[b]? = some (.cells cur.toArray T fr)) (hp : p b) (hn : off + n ≤ cur.length) (hc : n ≤ cap) (hm : cap ≤ maxLen) :
    Cells w p (.slice (some ⟨b, off, none⟩) n cap) ((cur.drop off).take n) := by
  have hl : ((cur.drop off).take n).length = n := by rw [List.length_take, List.length_drop]; omega
  refine ⟨_, _, _, rfl, hl.symm, hc, hm, fun _ => ⟨b, off, rfl, hp, fun i hi => ?_⟩⟩
  rw [cell_at h, List.getElem?_take, if_pos hi, List.getElem?_drop]

theorem addr_add (b o i : Nat) : (⟨b, o, none⟩ : Addr).add i = ⟨b, o + i, none⟩ := by
  unfold Addr.add; split <;> simp_all

section
variable {P : Program} (T E : TypeId) (hT : P.underlying T = some (.slice E)) (hE : (P.info? E).map (·.size) = some 1)
include hT hE
/-- x[k:]. -/
theorem slice_from (w : World) {p : Nat → Prop} {a : Option Addr} {len cap : Nat} {cs : List Value} (h : Cells w p (.slice a len cap) cs) (k : Nat) (hk : k ≤ cs.length) :
    ∃ v, (Instr.slice T (.slice a len cap) (some (.int .i64 (k : Int))) none none).run P w = .ok v w ∧ Cells w p v (cs.drop k) := by
  obtain ⟨a', len', cap', e, h1, h2, h3, h4⟩ := h
  cases e
  subst h1
  obtain ⟨i, hi, hs⟩ : ∃ i, P.info? E = some i ∧ i.size = 1 := by
    cases hq : P.info? E with
    | none => simp [hq] at hE
    | some i => exact ⟨i, rfl, by simpa [hq] using hE⟩
  refine ⟨.slice (if cap = k then a else a.map (·.add k)) (cs.length - k) (cap - k), ?_, ?_⟩
  · simp [Instr.slice, run_underlying hT, Instr.sliceBounds, Instr.sliceBound, asIntOf, hk, sizeOf, typeInfo, hi, hs]
  · refine ⟨_, _, _, rfl, by rw [List.length_drop], by omega, Nat.le_trans (Nat.sub_le _ _) h3, fun h0 => ?_⟩
    obtain ⟨blk, off, rfl, hp, hc⟩ := h4 (by omega)
    rw [if_neg (by omega)]
    refine ⟨blk, off + k, by simp [addr_add], hp, fun j hj => ?_⟩
    rw [Nat.add_assoc, hc (k + j) (by omega), List.getElem?_drop]

/-- copy into a part of a block that is known whole: at least one cell. -/
theorem copy_into (w : World) (ty : TypeId) {p : Nat → Prop} {b o dl dc : Nat} {cur : List Value} {t : TypeId} {a : Option Addr} {len cap : Nat} {cs : List Value} (hb : w.heap[b]? = some (.cells cur.toArray t (0, 0)))
    (h : Cells w p (.slice a len cap) cs) (n : Nat) (hn : n = Nat.min cs.length dl) (hfit : o + dl ≤ cur.length) (h1 : ∀ v ∈ cs, v.oneCell' = true) :
    (Builtin.copy_ #[T, T] ty #[.slice (some ⟨b, o, none⟩) dl dc, .slice a len cap]).run P w = .ok (.int .i64 (n : Int)) (w.setRow b (cur.take o ++ (cs.take n ++ cur.drop (o + n))).toArray) := by
  obtain ⟨a', len', cap', e, h2, h3, h4, h5⟩ := h
  cases e
  subst h2
  have hn1 : n ≤ cs.length := by rw [hn]; exact Nat.min_le_left _ _
  have hn2 : n ≤ dl := by rw [hn]; exact Nat.min_le_right _ _
  by_cases h0 : n = 0
  · subst h0
    have e : (cur.take o ++ (cs.take 0 ++ cur.drop (o + 0))) = cur := by simp
    rw [e, setRow_self w b _ _ _ hb]
    cases hq : P.info? E with
    | none => simp [hq] at hE
    | some i => cases a <;> simp [Builtin.copy_, run_underlying hT, Builtin.lenOf, Builtin.firstCells, sizeOf, typeInfo, hq, ← hn, storeCells, loadCells, loadCellsFrom, goInt]
  · obtain ⟨blk, off, rfl, hp, hc⟩ := h5 (by omega)
    have hl : (cs.take n).length = n := by rw [List.length_take]; omega
    have := run_copy_row (P := P) w T T ty E b o dl dc ⟨blk, off, none⟩ cs.length cap cur.toArray t (cs.take n) hT hE hb (by rw [hl]; exact hn)
      (fun j v hv => by
        rw [addr_add]
        rw [List.getElem?_take] at hv
        split at hv
        · rw [hc j (by omega)]; exact hv
        · cases hv) (by simp only [List.size_toArray]; omega) (fun v hv => h1 v (List.mem_of_mem_take hv))
    rw [hl] at this
    rw [this]
    simp [goInt, List.append_assoc]
end

theorem heap_setRow {w : World} {b : Nat} {cur : Array Value} {T : TypeId} {fr : Nat × Nat} (h : w.heap[b]? = some (.cells cur T fr)) (cs : Array Value) : (w.setRow b cs).heap[b]? = some (.cells cs T fr) := setRow_heap w b cur cs T fr h
theorem Keep.setRow {p : Nat → Prop} {a w : World} (h : Keep p a w) {b : Nat} (cs : Array Value) (hp : ¬ p b) : Keep p a (w.setRow b cs) :=
  h.trans ⟨rfl, rfl, rfl, by simp, fun k hk => setRow_other w b k cs (fun e => hp (e ▸ hk))⟩
theorem ints_one (k : IntKind) (xs : List Nat) : ∀ v ∈ ints k xs, v.oneCell' = true := by
  intro v hv
  simp only [ints, List.mem_map] at hv
  obtain ⟨n, _, rfl⟩ := hv
  rfl
/-- the world under a new name, of which only R is known. -/
theorem wp_world {P : Program} {c : Code} {Q : Exit → Act → World → Prop} {a : Act} {w : World} (R : World → Prop) (h : R w) (k : ∀ w', R w' → c.wp P Q a w') : c.wp P Q a w := k w h

end Go.Proofs.Mem
