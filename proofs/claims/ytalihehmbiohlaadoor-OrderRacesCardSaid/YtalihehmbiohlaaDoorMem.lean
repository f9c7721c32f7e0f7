/-
  Worlds and blocks: what stays, what a block of whole numbers reads as, what a store makes of it. No program in sight.
  More on worlds and blocks: an array's value read at a place, a part of a block read whole. No program in sight.
  More on worlds and blocks: bytes as a string. No program in sight.
  More on worlds and blocks: append onto a row of the call's own; two arrays of bytes held against each other. No program in sight.
  More on worlds and blocks: rows that lie in blocks of their own, several beside each other. No program in sight.
  More on worlds and blocks: a struct or an array made out of its parts. No program in sight.
-/
import Derived.WalkKit
import Derived.Deep.Draws
import Derived.Deep.MidRow
import Derived.Laws.BytesArg
import Derived.Stop.BytesEq
import Derived.Maps.AppendAt
import Derived.Laws.MakeOwn
import Derived.Laws.Tables
namespace Go.Proofs.Mem
open Go.RowKit

theorem hid {p : Prop} (h : p) : Hid p := h

/-- w' holds what w held in every block that p names; the streams are as they were. -/
structure Keep (p : Nat → Prop) (w w' : World) : Prop where
  os : w'.os = w.os
  tape : w'.tape = w.tape
  output : w'.output = w.output
  size : w.heap.size ≤ w'.heap.size
  block : ∀ k, p k → w'.heap[k]? = w.heap[k]?

theorem Keep.refl (p : Nat → Prop) (w : World) : Keep p w w := ⟨rfl, rfl, rfl, Nat.le_refl _, fun _ _ => rfl⟩
theorem Keep.trans {p : Nat → Prop} {a b c : World} (h : Keep p a b) (k : Keep p b c) : Keep p a c :=
  ⟨k.os.trans h.os, k.tape.trans h.tape, k.output.trans h.output, Nat.le_trans h.size k.size, fun i hi => (k.block i hi).trans (h.block i hi)⟩
theorem Keep.mono {p q : Nat → Prop} {a b : World} (h : Keep p a b) (hq : ∀ k, q k → p k) : Keep q a b := ⟨h.os, h.tape, h.output, h.size, fun k hk => h.block k (hq k hk)⟩
theorem Keep.drewN {p : Nat → Prop} {a w : World} (h : Keep p a w) (n : Nat) : Keep p a (w.drewN n) := ⟨h.os, h.tape, h.output, h.size, h.block⟩
theorem Keep.drew {p : Nat → Prop} {a w : World} (h : Keep p a w) : Keep p a w.drew := ⟨h.os, h.tape, h.output, h.size, h.block⟩
theorem Keep.alloc {p : Nat → Prop} {a w : World} (h : Keep p a w) (o : Obj) (hp : ∀ k, p k → k < w.heap.size) : Keep p a (w.alloc o) :=
  h.trans ⟨rfl, rfl, rfl, by simp, fun k hk => Below.heap_alloc _ _ _ (hp k hk)⟩
theorem Keep.setCell {p : Nat → Prop} {a w : World} (h : Keep p a w) {x : Addr} (u : Value) (hp : ¬ p x.block) : Keep p a (w.setCell x u) :=
  h.trans ⟨rfl, rfl, rfl, by simp [World.setCell], fun k hk => Below.heap_setCell _ _ _ _ (fun e => hp (e ▸ hk))⟩
theorem Keep.below {B : Nat} {w w' : World} (h : Keep (· < B) w w') : Below B w w' := ⟨h.os, h.tape, h.output, h.size, h.block⟩
theorem Keep.of_below {B : Nat} {w w' : World} (h : Below B w w') : Keep (· < B) w w' := ⟨h.os, h.tape, h.output, h.size, h.block⟩
theorem Keep.grown {p : Nat → Prop} {a w w' : World} {row : Option Nat} (h : Keep p a w) (hg : w.grownBy w' row) (hp : ∀ k, p k → k < w.heap.size ∧ some k ≠ row) : Keep p a w' :=
  h.trans ⟨hg.os, hg.tape, hg.output, hg.size, fun k hk => hg.block k (hp k hk).1 (hp k hk).2⟩
theorem Keep.cell {p : Nat → Prop} {w w' : World} (h : Keep p w w') {x : Addr} (hp : p x.block) : w'.cell? x = w.cell? x := World.cell?_of_block (w := w) (h.block x.block hp)
theorem Keep.frozen {p : Nat → Prop} {w w' : World} (h : Keep p w w') {x : Addr} (hp : p x.block) : w'.frozen? x = w.frozen? x := World.frozen?_of_block (w := w) (h.block x.block hp)

/-- whole numbers as values. -/
def ints (k : IntKind) (xs : List Nat) : List Value := xs.map fun (n : Nat) => Value.int k (Int.ofNat n)
theorem ints_length (k : IntKind) (xs : List Nat) : (ints k xs).length = xs.length := by simp [ints]
theorem ints_get (k : IntKind) (xs : List Nat) (i : Nat) (h : i < xs.length) : (ints k xs)[i]? = some (.int k (xs.getD i 0 : Nat)) := by
  simp [ints, List.getElem?_map, List.getD_eq_getElem?_getD, List.getElem?_eq_getElem h]
theorem ints_set (k : IntKind) (xs : List Nat) (i v : Nat) : (ints k xs).set i (.int k (v : Int)) = ints k (xs.set i v) := by
  simp [ints, List.map_set]
theorem ints_append (k : IntKind) (xs ys : List Nat) : ints k (xs ++ ys) = ints k xs ++ ints k ys := by simp [ints]

theorem cell_at {w : World} {b : Nat} {cs : List Value} {T : TypeId} {fr : Nat × Nat} (h : w.heap[b]? = some (.cells cs.toArray T fr)) (i : Nat) : w.cell? ⟨b, i, none⟩ = cs[i]? := by
  simp [World.cell?, h]
theorem frozen_at {w : World} {b : Nat} {cs : Array Value} {T : TypeId} (h : w.heap[b]? = some (.cells cs T (0, 0))) (i : Nat) : w.frozen? ⟨b, i, none⟩ = false := by
  simp [World.frozen?, h]
theorem set_at {w : World} {b : Nat} {cs : List Value} {T : TypeId} {fr : Nat × Nat} (h : w.heap[b]? = some (.cells cs.toArray T fr)) (i : Nat) (v : Value) :
    (w.setCell ⟨b, i, none⟩ v).heap[b]? = some (.cells (cs.set i v).toArray T fr) := by
  simp [World.setCell, Array.getElem?_modify, h]
theorem heap_drewN (w : World) (n k : Nat) : (w.drewN n).heap[k]? = w.heap[k]? := rfl

/-- a sum that fits. -/
theorem i64_of {a : Int} {n : Nat} (h : a = n) (hn : (n : Int) ≤ 9223372036854775807) : IntKind.i64.wrap a = n := by
  rw [IntWalk.i64_in _ (by omega)]; exact h

/-- a value is a slice (elements of one cell each) that reads as the row cs; if it is not empty, it lies in a block that p names. -/
def Cells (w : World) (p : Nat → Prop) (v : Value) (cs : List Value) : Prop :=
  ∃ a len cap, v = .slice a len cap ∧ len = cs.length ∧ len ≤ cap ∧ cap ≤ maxLen ∧ (0 < len → ∃ blk off, a = some ⟨blk, off, none⟩ ∧ p blk ∧ ∀ i, i < len → w.cell? ⟨blk, off + i, none⟩ = cs[i]?)

theorem Cells.keep {w w' : World} {p q : Nat → Prop} {v : Value} {cs : List Value} (h : Cells w p v cs) (k : Keep q w w') (hq : ∀ b, p b → q b) : Cells w' p v cs := by
  obtain ⟨a, len, cap, rfl, h1, h2, h3, h4⟩ := h
  refine ⟨a, len, cap, rfl, h1, h2, h3, fun h0 => ?_⟩
  obtain ⟨blk, off, rfl, hp, hc⟩ := h4 h0
  exact ⟨blk, off, rfl, hp, fun i hi => (k.cell (x := ⟨blk, off + i, none⟩) (hq _ hp)).trans (hc i hi)⟩
theorem Cells.mono {w : World} {p q : Nat → Prop} {v : Value} {cs : List Value} (h : Cells w p v cs) (hq : ∀ b, p b → q b) : Cells w q v cs := by
  obtain ⟨a, len, cap, rfl, h1, h2, h3, h4⟩ := h
  refine ⟨a, len, cap, rfl, h1, h2, h3, fun h0 => ?_⟩
  obtain ⟨blk, off, rfl, hp, hc⟩ := h4 h0
  exact ⟨blk, off, rfl, hq _ hp, hc⟩
theorem Cells.lt {w : World} {p : Nat → Prop} {v : Value} {cs : List Value} (h : Cells w p v cs) : Cells w (fun b => b < w.heap.size ∧ p b) v cs := by
  obtain ⟨a, len, cap, rfl, h1, h2, h3, h4⟩ := h
  refine ⟨a, len, cap, rfl, h1, h2, h3, fun h0 => ?_⟩
  obtain ⟨blk, off, rfl, hp, hc⟩ := h4 h0
  have h5 := hc 0 h0
  rw [List.getElem?_eq_getElem (by omega)] at h5
  exact ⟨blk, off, rfl, ⟨World.block_lt_of_cell? w _ h5, hp⟩, hc⟩
theorem Cells.nil (w : World) (p : Nat → Prop) : Cells w p (.slice none 0 0) [] := ⟨none, 0, 0, rfl, rfl, Nat.le_refl _, Nat.zero_le _, fun h => absurd h (by decide)⟩
theorem Cells.len_le {w : World} {p : Nat → Prop} {v : Value} {cs : List Value} (h : Cells w p v cs) : cs.length ≤ 9223372036854775807 := by
  obtain ⟨a, len, cap, rfl, h1, h2, h3, h4⟩ := h
  unfold maxLen at h3
  omega
/-- where it is not empty. -/
theorem Cells.at_ {w : World} {p : Nat → Prop} {v : Value} {cs : List Value} (h : Cells w p v cs) (h0 : 0 < cs.length) :
    ∃ blk off cap, v = .slice (some ⟨blk, off, none⟩) cs.length cap ∧ cs.length ≤ cap ∧ cap ≤ 9223372036854775807 ∧ p blk ∧ ∀ i, i < cs.length → w.cell? ⟨blk, off + i, none⟩ = cs[i]? := by
  obtain ⟨a, len, cap, rfl, rfl, h2, h3, h4⟩ := h
  obtain ⟨blk, off, rfl, hp, hc⟩ := h4 h0
  exact ⟨blk, off, cap, rfl, h2, by simpa [maxLen] using h3, hp, hc⟩
/-- a part of a block. -/
theorem Cells.of_block {w : World} {b off n cap : Nat} {cur : List Value} {T : TypeId} {fr : Nat × Nat} {p : Nat → Prop} (h : w.heap[b]? = some (.cells cur.toArray T fr)) (hp : p b) (hn : off + n ≤ cur.length) (hc : n ≤ cap) (hm : cap ≤ maxLen) :
    Cells w p (.slice (some ⟨b, off, none⟩) n cap) ((cur.drop off).take n) := by
  have hl : ((cur.drop off).take n).length = n := by rw [List.length_take, List.length_drop]; omega
  refine ⟨_, _, _, rfl, hl.symm, hc, hm, fun _ => ⟨b, off, rfl, hp, fun i hi => ?_⟩⟩
  rw [cell_at h, List.getElem?_take, if_pos hi, List.getElem?_drop]

theorem addr_add (b o i : Nat) : (⟨b, o, none⟩ : Addr).add i = ⟨b, o + i, none⟩ := by
  unfold Addr.add; split <;> simp_all

section
variable {P : Program} (T E : TypeId) (hT : P.underlying T = some (.slice E)) (hE : (P.info? E).map (·.size) = some 1)
include hT hE
/-- x[k:]. -/
theorem slice_from (w : World) {p : Nat → Prop} {a : Option Addr} {len cap : Nat} {cs : List Value} (h : Cells w p (.slice a len cap) cs) (k : Nat) (hk : k ≤ cs.length) :
    ∃ v, (Instr.slice T (.slice a len cap) (some (.int .i64 (k : Int))) none none).run P w = .ok v w ∧ Cells w p v (cs.drop k) := by
  obtain ⟨a', len', cap', e, h1, h2, h3, h4⟩ := h
  cases e
  subst h1
  obtain ⟨i, hi, hs⟩ : ∃ i, P.info? E = some i ∧ i.size = 1 := by
    cases hq : P.info? E with
    | none => simp [hq] at hE
    | some i => exact ⟨i, rfl, by simpa [hq] using hE⟩
  refine ⟨.slice (if cap = k then a else a.map (·.add k)) (cs.length - k) (cap - k), ?_, ?_⟩
  · simp [Instr.slice, run_underlying hT, Instr.sliceBounds, Instr.sliceBound, asIntOf, hk, sizeOf, typeInfo, hi, hs]
  · refine ⟨_, _, _, rfl, by rw [List.length_drop], by omega, Nat.le_trans (Nat.sub_le _ _) h3, fun h0 => ?_⟩
    obtain ⟨blk, off, rfl, hp, hc⟩ := h4 (by omega)
    rw [if_neg (by omega)]
    refine ⟨blk, off + k, by simp [addr_add], hp, fun j hj => ?_⟩
    rw [Nat.add_assoc, hc (k + j) (by omega), List.getElem?_drop]

/-- copy into a part of a block that is known whole: at least one cell. -/
theorem copy_into (w : World) (ty : TypeId) {p : Nat → Prop} {b o dl dc : Nat} {cur : List Value} {t : TypeId} {a : Option Addr} {len cap : Nat} {cs : List Value} (hb : w.heap[b]? = some (.cells cur.toArray t (0, 0)))
    (h : Cells w p (.slice a len cap) cs) (n : Nat) (hn : n = Nat.min cs.length dl) (hfit : o + dl ≤ cur.length) (h1 : ∀ v ∈ cs, v.oneCell' = true) :
    (Builtin.copy_ #[T, T] ty #[.slice (some ⟨b, o, none⟩) dl dc, .slice a len cap]).run P w = .ok (.int .i64 (n : Int)) (w.setRow b (cur.take o ++ (cs.take n ++ cur.drop (o + n))).toArray) := by
  obtain ⟨a', len', cap', e, h2, h3, h4, h5⟩ := h
  cases e
  subst h2
  have hn1 : n ≤ cs.length := by rw [hn]; exact Nat.min_le_left _ _
  have hn2 : n ≤ dl := by rw [hn]; exact Nat.min_le_right _ _
  by_cases h0 : n = 0
  · subst h0
    have e : (cur.take o ++ (cs.take 0 ++ cur.drop (o + 0))) = cur := by simp
    rw [e, setRow_self w b _ _ _ hb]
    cases hq : P.info? E with
    | none => simp [hq] at hE
    | some i => cases a <;> simp [Builtin.copy_, run_underlying hT, Builtin.lenOf, Builtin.firstCells, sizeOf, typeInfo, hq, ← hn, storeCells, loadCells, loadCellsFrom, goInt]
  · obtain ⟨blk, off, rfl, hp, hc⟩ := h5 (by omega)
    have hl : (cs.take n).length = n := by rw [List.length_take]; omega
    have := run_copy_row (P := P) w T T ty E b o dl dc ⟨blk, off, none⟩ cs.length cap cur.toArray t (cs.take n) hT hE hb (by rw [hl]; exact hn)
      (fun j v hv => by
        rw [addr_add]
        rw [List.getElem?_take] at hv
        split at hv
        · rw [hc j (by omega)]; exact hv
        · cases hv) (by simp only [List.size_toArray]; omega) (fun v hv => h1 v (List.mem_of_mem_take hv))
    rw [hl] at this
    rw [this]
    simp [goInt, List.append_assoc]
end

theorem heap_setRow {w : World} {b : Nat} {cur : Array Value} {T : TypeId} {fr : Nat × Nat} (h : w.heap[b]? = some (.cells cur T fr)) (cs : Array Value) : (w.setRow b cs).heap[b]? = some (.cells cs T fr) := setRow_heap w b cur cs T fr h
theorem Keep.setRow {p : Nat → Prop} {a w : World} (h : Keep p a w) {b : Nat} (cs : Array Value) (hp : ¬ p b) : Keep p a (w.setRow b cs) :=
  h.trans ⟨rfl, rfl, rfl, by simp, fun k hk => setRow_other w b k cs (fun e => hp (e ▸ hk))⟩
theorem ints_one (k : IntKind) (xs : List Nat) : ∀ v ∈ ints k xs, v.oneCell' = true := by
  intro v hv
  simp only [ints, List.mem_map] at hv
  obtain ⟨n, _, rfl⟩ := hv
  rfl
/-- the world under a new name, of which only R is known. -/
theorem wp_world {P : Program} {c : Code} {Q : Exit → Act → World → Prop} {a : Act} {w : World} (R : World → Prop) (h : R w) (k : ∀ w', R w' → c.wp P Q a w') : c.wp P Q a w := k w h

end Go.Proofs.Mem

namespace Go.Proofs.Mem
open Go.RowKit

theorem index_agg {P : Program} (T E n : Nat) (k : IntKind) (hT : P.underlying T = some (.array n E)) (hk : P.underlying E = some (.int k)) (hE : (P.info? E).map (·.size) = some 1) (w : World) (xs : List Value) (i : Nat) (v : Value) (hi : i < n) (hv : xs[i]? = some v) :
    (Instr.index T (.agg xs.toArray) (.int .i64 (i : Int))).run P w = .ok v w := by
  obtain ⟨j, hj, hs⟩ : ∃ j, P.info? E = some j ∧ j.size = 1 := by
    cases hq : P.info? E with
    | none => simp [hq] at hE
    | some j => exact ⟨j, rfl, by simpa [hq] using hE⟩
  simp [Instr.index, asIntOf, run_underlying hT, hi, sizeOf, typeInfo, hj, hs, part, isAgg, run_underlying hk, hv]

/-- a part of a block, read whole. -/
theorem range_at {w : World} {b : Nat} {cs : List Value} {T : TypeId} {fr : Nat × Nat} (h : w.heap[b]? = some (.cells cs.toArray T fr)) (off n : Nat) : w.rangeAt b off ((cs.drop off).take n) := by
  intro j v hv
  rw [cell_at h, ← hv, List.getElem?_take]
  rw [List.getElem?_take] at hv
  split at hv
  · rw [if_pos ‹_›, List.getElem?_drop]
  · cases hv
theorem shr_run {P : Program} (k ky : IntKind) (n : Nat) (q : Int) (m : Nat) (hq : q = (m : Int)) (hm : m ≤ k.bits) (w : World) : (Op.shift .shr k (n : Int) ky q).run P w = .ok (.int k ((n / 2 ^ m : Nat) : Int)) w := by
  subst hq
  have h0 : ¬ ((m : Int) < 0) := by omega
  have e1 : (n : Int).fdiv (2 ^ m) = ((n / 2 ^ m : Nat) : Int) := by
    rw [Int.fdiv_eq_ediv_of_nonneg _ (Int.pow_nonneg (by decide)), Int.natCast_ediv, Int.natCast_pow]; rfl
  simp [Op.shift, h0, Nat.min_eq_left hm, e1]

theorem calls_world {P : Program} {f : FuncId} {args : Array Value} {w : World} {Q : Ending → World → Prop} (R : World → Prop) (h : R w) (k : ∀ w', R w' → Calls P f args w' Q) : Calls P f args w Q := k w h
theorem list_world {P : Program} {ops : Array Oper} {Q : Exit → Act → World → Prop} {l : List Oper} {a : Act} {w : World} (R : World → Prop) (h : R w) (k : ∀ w', R w' → wpList P ops Q l a w') : wpList P ops Q l a w := k w h
end Go.Proofs.Mem

namespace Go.Proofs.Mem
open Go.RowKit

/-- bytes as a string. -/
def bstr (xs : List Nat) : ByteArray := ⟨(xs.map UInt8.ofNat).toArray⟩

theorem strOfNums_ints (xs : List Nat) : strOfNums (xs.map Int.ofNat) = bstr xs := by
  simp [strOfNums, bstr, List.map_map, Function.comp_def]

theorem convert_bytes {P : Program} (src e dst : TypeId) (hs : P.underlying src = some (.slice e)) (he : P.underlying e = some (.int .u8)) (hd : P.underlying dst = some .string) (w : World) {p : Nat → Prop} {a : Option Addr} {len cap : Nat} {xs : List Nat} (h : Cells w p (.slice a len cap) (ints .u8 xs)) :
    (convert src dst (.slice a len cap)).run P w = .ok (.string (bstr xs)) w := by
  obtain ⟨a', len', cap', e', h1, h2, h3, h4⟩ := h
  cases e'
  rw [ints_length] at h1
  subst h1
  by_cases h0 : 0 < xs.length
  · obtain ⟨blk, off, rfl, _, hc⟩ := h4 h0
    rw [← strOfNums_ints]
    refine run_convert_bytes_arg w src e hs he blk off xs.length cap (xs.map Int.ofNat) (by simp) (fun i hi => ?_) dst hd
    rw [hc i hi, ints_get _ _ _ hi]
    simp [List.getD_eq_getElem?_getD, List.getElem?_eq_getElem hi]
  · obtain rfl : xs = [] := List.eq_nil_of_length_eq_zero (by omega)
    cases a with
    | none => exact run_convert_bytes_nil w src e hs he _ _ dst hd
    | some a =>
      rw [run_convert_bytes_string w src dst e _ _ cap hs he hd]
      have := run_bytesToString (P := P) w a 0 cap [] (by simp [loadCells, loadCellsFrom])
      exact this
end Go.Proofs.Mem

namespace Go.Proofs.Mem
open Go.RowKit

section
variable {P : Program} (T E : TypeId) (i : TypeInfo) (z : Value) (bytes : Nat) (hT : P.underlying T = some (.slice E)) (hi : P.info? E = some i) (hz : i.zero = some z) (hs : i.size = 1) (hby : i.bytes = bytes) (hzs : z.cells.size = 1)
include hT hi hz hs hby hzs
/-- append(v, u...): v the call's own, u whatever can be read. -/
theorem append_own (w : World) (ty : TypeId) (base : Nat) (v u : Value) (cs news : List Value) {p : Nat → Prop} (hown : w.ownsRow base E 1 v cs.length cs) (hu : Cells w p u news) (h1 : ∀ x ∈ news, x.oneCell' = true)
    (hb : (cs.length + news.length) * bytes ≤ 140737488355328) (hl : cs.length + news.length ≤ 9223372036854775807) (hbase : base ≤ w.heap.size) :
    ∃ v' w', (Builtin.append_ #[T, T] ty #[v, u]).run P w = .ok v' w' ∧ w'.ownsRow base E 1 v' (cs ++ news).length (cs ++ news) ∧ w.grownBy w' v.ownBlock := by
  obtain ⟨a, len, cap, rfl, h2, h3, h4, h5⟩ := hu
  subst h2
  by_cases h0 : 0 < news.length
  · obtain ⟨blk, off, rfl, _, hc⟩ := h5 h0
    obtain ⟨v', w', hr, h6, h7, _⟩ := run_append_own (P := P) w base T ty E i z 1 bytes hT hi hz hs hby hzs (by decide) v cs.length cs hown ⟨blk, off, none⟩ news.length cap news (by omega) (fun j x hj => by
      rw [addr_add, hc j (by
        rcases Nat.lt_or_ge j news.length with h | h
        · exact h
        · rw [List.getElem?_eq_none h] at hj; cases hj)]
      exact hj) h1 (by simpa [maxLen] using hl) hb hbase
    exact ⟨v', w', hr, by rwa [List.length_append], h7⟩
  · obtain rfl : news = [] := List.eq_nil_of_length_eq_zero (by omega)
    rcases hown.2 with ⟨rfl, hn⟩ | ⟨g, c, cur, rfl, hg, hgg, hnc, hcm, hcs, htk⟩
    · refine ⟨.slice none 0 0, w, ?_, ?_, ⟨rfl, rfl, rfl, Nat.le_refl _, fun _ _ _ => rfl⟩⟩
      · cases a <;> simp [Builtin.append_, run_underlying hT, sizeOf, typeInfo, hi, Builtin.lenOf, Builtin.firstCells, loadCells, loadCellsFrom]
      · rw [List.append_nil]; exact hown
    · refine ⟨.slice (some ⟨g, 0, none⟩) cs.length c, w, ?_, ?_, ⟨rfl, rfl, rfl, Nat.le_refl _, fun _ _ _ => rfl⟩⟩
      · cases a <;> simp [Builtin.append_, run_underlying hT, sizeOf, typeInfo, hi, Builtin.lenOf, Builtin.firstCells, loadCells, loadCellsFrom, hnc, storeCells]
      · rw [List.append_nil]; exact hown
end

theorem owns_keep {w w' : World} {base : Nat} {E : TypeId} {v : Value} {cs : List Value} (h : w.ownsRow base E 1 v cs.length cs) (k : Keep (· < w.heap.size) w w') : w'.ownsRow base E 1 v cs.length cs :=
  h.kept (row := none) ⟨k.os, k.tape, k.output, k.size, fun j hj _ => k.block j hj⟩ (by cases hv : v.ownBlock <;> simp)
theorem owns_cells {w : World} {base : Nat} {E : TypeId} {v : Value} {cs : List Value} (h : w.ownsRow base E 1 v cs.length cs) : Cells w (fun b => base ≤ b) v cs := by
  rcases h.2 with ⟨rfl, hn⟩ | ⟨g, c, cur, rfl, hg, hgg, hnc, hcm, hcs, htk⟩
  · obtain rfl : cs = [] := List.eq_nil_of_length_eq_zero hn
    exact Cells.nil _ _
  · refine ⟨_, _, _, rfl, rfl, hnc, hcm, fun _ => ⟨g, 0, rfl, hg, fun j hj => ?_⟩⟩
    have : w.cell? ⟨g, 0 + j, none⟩ = cur[j]? := by simp [World.cell?, hgg]
    have e := congrArg (fun l : List Value => l[j]?) htk
    simp only [List.getElem?_take, Nat.mul_one, hj, if_true] at e
    rw [this, ← e]
    simp
/-- an empty row of the call's own: '[]T{}'. -/
theorem owns_empty (w : World) (base : Nat) (E : TypeId) (hb : base ≤ w.heap.size) : (w.alloc (.cells #[] E)).ownsRow base E 1 (.slice (some ⟨w.heap.size, 0, none⟩) 0 0) ([] : List Value).length [] :=
  ⟨rfl, .inr ⟨w.heap.size, 0, #[], rfl, hb, heap_alloc_new w _, Nat.le_refl _, by decide, rfl, rfl⟩⟩
theorem Keep.grownBy {p : Nat → Prop} {w w' : World} {B : Nat} {v : Value} (hg : w.grownBy w' v.ownBlock) (hp : ∀ k, p k → k < w.heap.size ∧ k < B) {E : TypeId} {cs : List Value} (ho : w.ownsRow B E 1 v cs.length cs) : Keep p w w' := by
  refine ⟨hg.os, hg.tape, hg.output, hg.size, fun k hk => hg.block k (hp k hk).1 (fun e => ?_)⟩
  have := (ho.lt k e.symm).1
  have := (hp k hk).2
  omega

section
variable {P : Program} (T E : TypeId) (i : TypeInfo) (z : Value) (bytes : Nat) (hT : P.underlying T = some (.slice E)) (hi : P.info? E = some i) (hz : i.zero = some z) (hs : i.size = 1) (hby : i.bytes = bytes) (hzs : z.cells.size = 1)
include hT hi hz hs hby hzs
/-- the same, with what stays told by 'Keep'. -/
theorem append_keep (w : World) (ty : TypeId) (base : Nat) (v u : Value) (cs news : List Value) {p : Nat → Prop} (hown : w.ownsRow base E 1 v cs.length cs) (hu : Cells w p u news) (h1 : ∀ x ∈ news, x.oneCell' = true)
    (hb : (cs.length + news.length) * bytes ≤ 140737488355328) (hl : cs.length + news.length ≤ 9223372036854775807) (hbase : base ≤ w.heap.size) :
    ∃ v' w', (Builtin.append_ #[T, T] ty #[v, u]).run P w = .ok v' w' ∧ (w'.ownsRow base E 1 v' (cs ++ news).length (cs ++ news) ∧ Keep (· < base) w w' ∧ base ≤ w'.heap.size) := by
  obtain ⟨v', w', h1, h2, h3⟩ := append_own T E i z bytes hT hi hz hs hby hzs w ty base v u cs news hown hu h1 hb hl hbase
  exact ⟨v', w', h1, h2, Keep.grownBy h3 (fun k h => ⟨Nat.lt_of_lt_of_le h hbase, h⟩) hown, Nat.le_trans hbase h3.size⟩
/-- '[]T{}', and append onto it at once. -/
theorem append_first (w : World) (ty : TypeId) (u : Value) (news : List Value) {p : Nat → Prop} (hu : Cells w p u news) (h1 : ∀ x ∈ news, x.oneCell' = true)
    (hb : news.length * bytes ≤ 140737488355328) :
    ∃ v' w', (Builtin.append_ #[T, T] ty #[.slice (some ⟨w.heap.size, 0, none⟩) 0 0, u]).run P (w.alloc (.cells #[] E)) = .ok v' w' ∧ (w'.ownsRow w.heap.size E 1 v' news.length news ∧ Keep (· < w.heap.size) w w' ∧ w.heap.size ≤ w'.heap.size) := by
  have k0 : Keep (· < w.heap.size) w (w.alloc (.cells #[] E)) := (Keep.refl _ _).alloc _ (fun _ h => h)
  have hl := hu.len_le
  obtain ⟨v', w', h1, h2, h3, h4⟩ := append_keep T E i z bytes hT hi hz hs hby hzs (w.alloc (.cells #[] E)) ty w.heap.size _ u [] news (owns_empty w w.heap.size E (Nat.le_refl _)) (hu.lt.keep k0 (fun _ h => h.1)) h1 (by simpa using hb) (by simpa using hl) (by simp)
  rw [List.nil_append] at h2
  exact ⟨v', w', h1, h2, k0.trans h3, h4⟩
/-- append(v, x), with the row that holds x. -/
theorem append_one (w : World) (ty : TypeId) (base : Nat) (v x : Value) (cs : List Value) (hown : w.ownsRow base E 1 v cs.length cs) (h1 : x.oneCell' = true)
    (hb : (cs.length + 1) * bytes ≤ 140737488355328) (hl : cs.length + 1 ≤ 9223372036854775807) (hbase : base ≤ w.heap.size) :
    ∃ v' w', (Builtin.append_ #[T, T] ty #[v, .slice (some ⟨w.heap.size, 0, none⟩) 1 1]).run P (w.alloc (.cells #[x] E)) = .ok v' w' ∧ (w'.ownsRow base E 1 v' (cs ++ [x]).length (cs ++ [x]) ∧ Keep (· < base) w w' ∧ base ≤ w'.heap.size) := by
  have k0 : Keep (· < w.heap.size) w (w.alloc (.cells #[x] E)) := (Keep.refl _ _).alloc _ (fun _ h => h)
  have hc : Cells (w.alloc (.cells #[x] E)) (fun _ => True) (.slice (some ⟨w.heap.size, 0, none⟩) 1 1) [x] := by
    have := Cells.of_block (w := w.alloc (.cells #[x] E)) (b := w.heap.size) (off := 0) (n := 1) (cap := 1) (cur := [x]) (p := fun _ => True) (heap_alloc_new w _) trivial (Nat.le_refl _) (Nat.le_refl _) (by decide)
    simpa using this
  obtain ⟨v', w', h2, h3, h4, h5⟩ := append_keep T E i z bytes hT hi hz hs hby hzs (w.alloc (.cells #[x] E)) ty base v _ cs [x] (owns_keep hown k0) hc (fun y hy => by simp only [List.mem_singleton] at hy; rw [hy]; exact h1) (by simpa using hb) (by simpa using hl) (by simp; omega)
  exact ⟨v', w', h2, h3, (k0.mono (fun k h => Nat.lt_of_lt_of_le h hbase)).trans h4, h5⟩
end

theorem ints_cell {F : List Nat} (h : ∀ x ∈ F, x < 256) : ints .u8 F = (F.map UInt8.ofNat).map Extern.Stop.cell := by
  unfold ints
  rw [List.map_map]
  apply List.map_congr_left
  intro x hx
  have := h x hx
  simp [Extern.Stop.cell, Nat.mod_eq_of_lt this]
theorem map_beq {F G : List Nat} (hF : ∀ x ∈ F, x < 256) (hG : ∀ x ∈ G, x < 256) : (F.map UInt8.ofNat == G.map UInt8.ofNat) = (F == G) := by
  rw [Bool.eq_iff_iff]
  simp only [beq_iff_eq]
  constructor
  · intro h
    have e : ∀ L : List Nat, (∀ x ∈ L, x < 256) → (L.map UInt8.ofNat).map UInt8.toNat = L := by
      intro L hL
      rw [List.map_map]
      conv => rhs; rw [← List.map_id L]
      apply List.map_congr_left
      intro x hx
      simp [Nat.mod_eq_of_lt (hL x hx)]
    rw [← e F hF, ← e G hG, h]
  · intro h; rw [h]
/-- two arrays of bytes, ==. -/
theorem eql_bytes {P : Program} (T E n : Nat) (hT : P.underlying T = some (.array n E)) (hE : P.underlying E = some (.int .u8)) (hs : (P.info? E).map (·.size) = some 1) (w : World) {F G : List Nat} (hF : ∀ x ∈ F, x < 256) (hG : ∀ x ∈ G, x < 256) (hFl : F.length = n) (hGl : G.length = n) :
    (binOp .eql T (.agg (ints .u8 F).toArray) (.agg (ints .u8 G).toArray)).run P w = .ok (.bool (F == G)) w := by
  obtain ⟨i, hi, h1⟩ : ∃ i, P.info? E = some i ∧ i.size = 1 := by
    cases hq : P.info? E with
    | none => simp [hq] at hs
    | some i => exact ⟨i, rfl, by simpa [hq] using hs⟩
  rw [ints_cell hF, ints_cell hG, run_eql_bytes w T E n hT hE (fun w => by simp [sizeOf, typeInfo, hi, h1]) _ _ (by simpa using hFl) (by simpa using hGl), map_beq hF hG]
/-- an append that the walk has come to, its run told. -/
theorem wpList_app {P : Program} {ops : Array Oper} {rest : List Oper} {o : Oper} {a : Act} {w : World} {Q : Exit → Act → World → Prop} (hgd : o.guard = none) (s x : Operand) (T T' : TypeId)
    (ho : o.op = .call { callee := .builtin .append, args := #[s, x], argTypes := #[T, T'] }) (R : Value → World → Prop)
    (hr : ∃ v' w', (Builtin.append_ #[T, T'] o.type #[a.eval s, a.eval x]).run P w = .ok v' w' ∧ R v' w') (h : ∀ v' w', R v' w' → wpList P ops Q rest (a.put o.dst v') w') : wpList P ops Q (o :: rest) a w := by
  obtain ⟨v', w', hr, hR⟩ := hr
  refine wpList_plain hgd fun K hK => ?_
  unfold Oper.wp execOp
  simp only [ho, resolve, invoke, builtin, Sem.run_bind, Sem.run_pure, Result.andThen_ok, List.map_toArray, List.map_cons, List.map_nil, hr]
  exact hK _ _ (h v' w' hR)
/-- the same, where a guard stands ahead of the append and holds. -/
theorem wpList_app_if {P : Program} {ops : Array Oper} {rest : List Oper} {o : Oper} {a : Act} {w : World} {Q : Exit → Act → World → Prop} (s x : Operand) (T T' : TypeId)
    (ho : o.op = .call { callee := .builtin .append, args := #[s, x], argTypes := #[T, T'] }) (hw : Region.wanted o (yielded ops a.tmps) = true) (R : Value → World → Prop)
    (hr : ∃ v' w', (Builtin.append_ #[T, T'] o.type #[a.eval s, a.eval x]).run P w = .ok v' w' ∧ R v' w') (h : ∀ v' w', R v' w' → wpList P ops Q rest (a.put o.dst v') w') : wpList P ops Q (o :: rest) a w := by
  obtain ⟨v', w', hr, hR⟩ := hr
  refine wpList_step fun K hK => ?_
  rw [if_pos hw]
  unfold Oper.wp execOp
  simp only [ho, resolve, invoke, builtin, Sem.run_bind, Sem.run_pure, Result.andThen_ok, List.map_toArray, List.map_cons, List.map_nil, hr]
  exact hK _ _ (h v' w' hR)
end Go.Proofs.Mem

namespace Go.Proofs.Mem
open Go.RowKit

/-- v is nil or all of a block of its own; it reads as cs. -/
def Row (w : World) (E : TypeId) (v : Value) (cs : List Value) : Prop := w.ownsRow 0 E 1 v cs.length cs
theorem Row.nil (w : World) (E : TypeId) : Row w E (.slice none 0 0) [] := World.ownsRow_nil w 0 E 1
theorem Row.lt {w : World} {E : TypeId} {v : Value} {cs : List Value} (h : Row w E v cs) {k : Nat} (hk : v.ownBlock = some k) : k < w.heap.size := (World.ownsRow.lt h k hk).2
theorem Row.keep {w w' : World} {E : TypeId} {v : Value} {cs : List Value} {q : Nat → Prop} (h : Row w E v cs) (k : Keep q w w') (hq : ∀ b, v.ownBlock = some b → q b) : Row w' E v cs := by
  refine ⟨h.1, ?_⟩
  rcases h.2 with hn | ⟨g, cap, cur, rfl, hb, hgg, rest⟩
  · exact .inl hn
  · exact .inr ⟨g, cap, cur, rfl, hb, (k.block g (hq g rfl)).trans hgg, rest⟩
theorem Row.cells {w : World} {E : TypeId} {v : Value} {cs : List Value} (h : Row w E v cs) : Cells w (fun b => v.ownBlock = some b) v cs := by
  rcases h.2 with ⟨rfl, hn⟩ | ⟨g, c, cur, rfl, hg, hgg, hnc, hcm, hcs, htk⟩
  · obtain rfl : cs = [] := List.eq_nil_of_length_eq_zero hn
    exact Cells.nil _ _
  · refine ⟨_, _, _, rfl, rfl, hnc, hcm, fun _ => ⟨g, 0, rfl, rfl, fun j hj => ?_⟩⟩
    have : w.cell? ⟨g, 0 + j, none⟩ = cur[j]? := by simp [World.cell?, hgg]
    have e := congrArg (fun l : List Value => l[j]?) htk
    simp only [List.getElem?_take, Nat.mul_one, hj, if_true] at e
    rw [this, ← e]
    simp
theorem Row.form {w : World} {E : TypeId} {v : Value} {cs : List Value} (h : Row w E v cs) : ∃ a c, v = .slice a cs.length c := by
  rcases h.2 with ⟨rfl, hn⟩ | ⟨g, c, cur, rfl, _⟩
  · exact ⟨none, 0, by rw [hn]⟩
  · exact ⟨_, _, rfl⟩

section
variable {P : Program} (T E : TypeId) (i : TypeInfo) (z : Value) (bytes : Nat) (hT : P.underlying T = some (.slice E)) (hi : P.info? E = some i) (hz : i.zero = some z) (hs : i.size = 1) (hby : i.bytes = bytes) (hzs : z.cells.size = 1)
include hT hi hz hs hby hzs
/-- append(v, u...): where the new row lies. -/
theorem append_at (w : World) (ty : TypeId) (v u : Value) (cs news : List Value) {p : Nat → Prop} (hown : Row w E v cs) (hu : Cells w p u news) (h1 : ∀ x ∈ news, x.oneCell' = true)
    (hb : (cs.length + news.length) * bytes ≤ 140737488355328) (hl : cs.length + news.length ≤ 9223372036854775807) :
    ∃ v' w', (Builtin.append_ #[T, T] ty #[v, u]).run P w = .ok v' w' ∧ (Row w' E v' (cs ++ news) ∧ Keep (fun k => k < w.heap.size ∧ v.ownBlock ≠ some k) w w' ∧ ∀ k, v'.ownBlock = some k → v.ownBlock = some k ∨ w.heap.size ≤ k) := by
  obtain ⟨a, len, cap, rfl, h2, h3, h4, h5⟩ := hu
  subst h2
  by_cases h0 : 0 < news.length
  · obtain ⟨blk, off, rfl, _, hc⟩ := h5 h0
    obtain ⟨v', w', hr, h6, h7, _, h8⟩ := run_append_own_at (P := P) w 0 T ty E i z 1 bytes hT hi hz hs hby hzs (by decide) v cs.length cs hown ⟨blk, off, none⟩ news.length cap news (by omega) (fun j x hj => by
      rw [addr_add, hc j (by
        rcases Nat.lt_or_ge j news.length with h | h
        · exact h
        · rw [List.getElem?_eq_none h] at hj; cases hj)]
      exact hj) h1 (by simpa [maxLen] using hl) hb (Nat.zero_le _)
    refine ⟨v', w', hr, by unfold Row; rwa [List.length_append], ⟨h7.os, h7.tape, h7.output, h7.size, fun k hk => h7.block k hk.1 (fun e => hk.2 e.symm)⟩, fun k hk => ?_⟩
    rcases h8 with h8 | h8
    · exact .inl (h8 ▸ hk)
    · rw [hk] at h8; injection h8 with h8; exact .inr (by omega)
  · obtain rfl : news = [] := List.eq_nil_of_length_eq_zero (by omega)
    rcases hown.2 with ⟨rfl, hn⟩ | ⟨g, c, cur, rfl, hg, hgg, hnc, hcm, hcs, htk⟩
    · refine ⟨.slice none 0 0, w, ?_, ?_, Keep.refl _ _, fun k hk => by cases hk⟩
      · cases a <;> simp [Builtin.append_, run_underlying hT, sizeOf, typeInfo, hi, Builtin.lenOf, Builtin.firstCells, loadCells, loadCellsFrom]
      · rw [List.append_nil]; exact hown
    · refine ⟨.slice (some ⟨g, 0, none⟩) cs.length c, w, ?_, ?_, Keep.refl _ _, fun k hk => .inl hk⟩
      · cases a <;> simp [Builtin.append_, run_underlying hT, sizeOf, typeInfo, hi, Builtin.lenOf, Builtin.firstCells, loadCells, loadCellsFrom, hnc, storeCells]
      · rw [List.append_nil]; exact hown
/-- append(v, x), with the row that holds x. -/
theorem append_at_one (w : World) (ty : TypeId) (v x : Value) (cs : List Value) (hown : Row w E v cs) (h1 : x.oneCell' = true)
    (hb : (cs.length + 1) * bytes ≤ 140737488355328) (hl : cs.length + 1 ≤ 9223372036854775807) :
    ∃ v' w', (Builtin.append_ #[T, T] ty #[v, .slice (some ⟨w.heap.size, 0, none⟩) 1 1]).run P (w.alloc (.cells #[x] E)) = .ok v' w' ∧
      (Row w' E v' (cs ++ [x]) ∧ Keep (fun k => k < w.heap.size ∧ v.ownBlock ≠ some k) w w' ∧ ∀ k, v'.ownBlock = some k → v.ownBlock = some k ∨ w.heap.size ≤ k) := by
  have k0 : Keep (· < w.heap.size) w (w.alloc (.cells #[x] E)) := (Keep.refl _ _).alloc _ (fun _ h => h)
  have hc : Cells (w.alloc (.cells #[x] E)) (fun _ => True) (.slice (some ⟨w.heap.size, 0, none⟩) 1 1) [x] := by
    have := Cells.of_block (w := w.alloc (.cells #[x] E)) (b := w.heap.size) (off := 0) (n := 1) (cap := 1) (cur := [x]) (p := fun _ => True) (heap_alloc_new w _) trivial (Nat.le_refl _) (Nat.le_refl _) (by decide)
    simpa using this
  obtain ⟨v', w', h2, h3, h4, h5⟩ := append_at T E i z bytes hT hi hz hs hby hzs (w.alloc (.cells #[x] E)) ty v _ cs [x] (hown.keep k0 (fun b hb => hown.lt hb)) hc (fun y hy => by simp only [List.mem_singleton] at hy; rw [hy]; exact h1) (by simpa using hb) (by simpa using hl)
  refine ⟨v', w', h2, h3, (k0.mono (fun k h => h.1)).trans (h4.mono (fun k h => ⟨Nat.lt_of_lt_of_le h.1 k0.size, h.2⟩)), fun k hk => ?_⟩
  rcases h5 k hk with h | h
  · exact .inl h
  · exact .inr (Nat.le_trans k0.size h)
end
/-- a block of two rows of their own. -/
def PairAt (w : World) (T E : TypeId) (b : Nat) (cs ds : List Value) : Prop :=
  ∃ sv tv, w.heap[b]? = some (.cells #[sv, tv] T (0, 0)) ∧ Row w E sv cs ∧ Row w E tv ds ∧ (∀ k, sv.ownBlock = some k → b < k ∧ tv.ownBlock ≠ some k) ∧ (∀ k, tv.ownBlock = some k → b < k)
theorem PairAt.lt {w : World} {T E : TypeId} {b : Nat} {cs ds : List Value} (h : PairAt w T E b cs ds) : b < w.heap.size := by
  obtain ⟨_, _, h, _⟩ := h
  exact (Array.getElem?_eq_some_iff.1 h).1
theorem PairAt.keep {w w' : World} {T E : TypeId} {b : Nat} {cs ds : List Value} {q : Nat → Prop} (h : PairAt w T E b cs ds) (k : Keep q w w') (hq : ∀ j, b ≤ j → j < w.heap.size → q j) : PairAt w' T E b cs ds := by
  have hb := h.lt
  obtain ⟨sv, tv, h1, h2, h3, h4, h5⟩ := h
  exact ⟨sv, tv, (k.block b (hq b (Nat.le_refl _) hb)).trans h1, h2.keep k (fun j hj => hq j (Nat.le_of_lt (h4 j hj).1) (h2.lt hj)), h3.keep k (fun j hj => hq j (Nat.le_of_lt (h5 j hj)) (h3.lt hj)), h4, h5⟩
/-- the first row is changed, and the block told. -/
theorem pair_first {w w3 : World} {T E : TypeId} {b : Nat} {ds cs' : List Value} {sv tv v1 : Value} (hh : w.heap[b]? = some (.cells #[sv, tv] T (0, 0))) (ht : Row w E tv ds)
    (h4 : ∀ k, sv.ownBlock = some k → b < k ∧ tv.ownBlock ≠ some k) (h5 : ∀ k, tv.ownBlock = some k → b < k) (r3 : Row w3 E v1 cs') (k3 : Keep (fun k => k < w.heap.size ∧ sv.ownBlock ≠ some k) w w3) (o3 : ∀ k, v1.ownBlock = some k → sv.ownBlock = some k ∨ w.heap.size ≤ k) :
    PairAt (w3.setCell ⟨b, 0, none⟩ v1) T E b cs' ds := by
  have hb : b < w.heap.size := (Array.getElem?_eq_some_iff.1 hh).1
  have hpb : b < w.heap.size ∧ sv.ownBlock ≠ some b := ⟨hb, fun h => by have := (h4 b h).1; omega⟩
  have h3 : w3.heap[b]? = some (.cells ([sv, tv] : List Value).toArray T (0, 0)) := (k3.block b hpb).trans hh
  have kk : Keep (· ≠ b) w3 (w3.setCell ⟨b, 0, none⟩ v1) := (Keep.refl _ _).setCell _ (by simp)
  refine ⟨v1, tv, by rw [set_at h3]; rfl, r3.keep kk (fun k hk => ?_), (ht.keep k3 (fun k hk => ⟨ht.lt hk, fun h => (h4 k h).2 hk⟩)).keep kk (fun k hk => by have := h5 k hk; omega), fun k hk => ?_, h5⟩
  · rcases o3 k hk with h | h
    · have := (h4 k h).1; omega
    · omega
  · rcases o3 k hk with h | h
    · exact h4 k h
    · exact ⟨by omega, fun h' => by have := ht.lt h'; omega⟩
/-- the second row is changed, and the block told. -/
theorem pair_second {w w3 : World} {T E : TypeId} {b : Nat} {cs ds' : List Value} {sv tv v1 : Value} (hh : w.heap[b]? = some (.cells #[sv, tv] T (0, 0))) (hs : Row w E sv cs)
    (h4 : ∀ k, sv.ownBlock = some k → b < k ∧ tv.ownBlock ≠ some k) (h5 : ∀ k, tv.ownBlock = some k → b < k) (r3 : Row w3 E v1 ds') (k3 : Keep (fun k => k < w.heap.size ∧ tv.ownBlock ≠ some k) w w3) (o3 : ∀ k, v1.ownBlock = some k → tv.ownBlock = some k ∨ w.heap.size ≤ k) :
    PairAt (w3.setCell ⟨b, 1, none⟩ v1) T E b cs ds' := by
  have hb : b < w.heap.size := (Array.getElem?_eq_some_iff.1 hh).1
  have hpb : b < w.heap.size ∧ tv.ownBlock ≠ some b := ⟨hb, fun h => by have := h5 b h; omega⟩
  have h3 : w3.heap[b]? = some (.cells ([sv, tv] : List Value).toArray T (0, 0)) := (k3.block b hpb).trans hh
  have kk : Keep (· ≠ b) w3 (w3.setCell ⟨b, 1, none⟩ v1) := (Keep.refl _ _).setCell _ (by simp)
  have hb1 : ∀ k, v1.ownBlock = some k → b < k := fun k hk => by
    rcases o3 k hk with h | h
    · exact h5 k h
    · omega
  refine ⟨sv, v1, by rw [set_at h3]; rfl, (hs.keep k3 (fun k hk => ⟨hs.lt hk, (h4 k hk).2⟩)).keep kk (fun k hk => by have := (h4 k hk).1; omega), r3.keep kk (fun k hk => by have := hb1 k hk; omega), fun k hk => ⟨(h4 k hk).1, fun h' => ?_⟩, hb1⟩
  rcases o3 k h' with h | h
  · exact (h4 k hk).2 h
  · have := hs.lt hk; omega
/-- make([]int.., c): zeros. -/
theorem make_ints {P : Program} (T E : TypeId) (i : TypeInfo) (k : IntKind) (bytes : Nat) (hT : P.underlying T = some (.slice E)) (hi : P.info? E = some i) (hz : i.zero = some (.int k 0)) (hs : i.size = 1) (hby : i.bytes = bytes) (l c : Nat) (hlc : l ≤ c) (hb : bytes * c ≤ 140737488355328) (hc : c ≤ 140737488355328) (w : World) :
    (Instr.makeSlice T (.int .i64 (l : Int)) (.int .i64 (c : Int))).run P w = .ok (.slice (some ⟨w.heap.size, 0, none⟩) l c) (w.alloc (.cells (ints k (List.replicate c 0)).toArray E)) := by
  have hb' : (i.bytes : Int) * (c : Int) ≤ 281474976710656 := by
    have h : ((i.bytes * c : Nat) : Int) ≤ 281474976710656 := by rw [hby]; omega
    rwa [Int.natCast_mul] at h
  rw [run_make w T E i (.int k 0) hT hi hz .i64 .i64 (l : Int) (c : Int) (by omega) (by omega) hb' (by omega)]
  simp only [Int.toNat_natCast, hs, Nat.mul_one]
  congr 3
  apply Array.ext
  · simp [madeCells, ints]
  · intro j h1 h2
    simp [madeCells, ints, Value.cells, Nat.mod_one]
theorem Row.blk {w : World} {E : TypeId} {v : Value} {cs : List Value} (h : Row w E v cs) (h0 : 0 < cs.length) :
    ∃ g c, v = .slice (some ⟨g, 0, none⟩) cs.length c ∧ cs.length ≤ c ∧ c ≤ 9223372036854775807 ∧ g < w.heap.size ∧ (∀ i, i < cs.length → w.cell? ⟨g, i, none⟩ = cs[i]?) ∧ ∀ i, w.frozen? ⟨g, i, none⟩ = false := by
  obtain ⟨g, off, c, e, h2, h3, h4, h5⟩ := h.cells.at_ h0
  rcases h.2 with ⟨rfl, hn⟩ | ⟨g', c', cur, rfl, hg, hgg, hnc, hcm, hcs, htk⟩
  · cases e
  · injection e with e1 e2 e3
    injection e1 with e1
    injection e1 with e1 e4
    subst e1 e3 e4
    exact ⟨g', c', rfl, h2, h3, (Array.getElem?_eq_some_iff.1 hgg).1, fun i hi => by have := h5 i hi; rwa [Nat.zero_add] at this, fun i => frozen_at hgg i⟩
theorem Row.set {w : World} {E : TypeId} {g n c : Nat} {cs : List Value} (h : Row w E (.slice (some ⟨g, 0, none⟩) n c) cs) (i : Nat) (_ : i < cs.length) (x : Value) : Row (w.setCell ⟨g, i, none⟩ x) E (.slice (some ⟨g, 0, none⟩) n c) (cs.set i x) := by
  rcases h.2 with ⟨e, hn⟩ | ⟨g', c', cur, e, hg, hgg, hnc, hcm, hcs, htk⟩
  · cases e
  · injection e with e1 e2 e3
    injection e1 with e1
    injection e1 with e1
    subst e1 e2 e3
    refine ⟨by simp, .inr ⟨g, c, cur.setIfInBounds i x, by rw [List.length_set], Nat.zero_le _, ?_, by rw [List.length_set]; exact hnc, hcm, by simpa using hcs, ?_⟩⟩
    · have := set_at (w := w) (b := g) (cs := cur.toList) (T := E) (fr := (0, 0)) (by simpa using hgg) i x
      rw [this]
      congr 2
      apply Array.ext'
      simp
    · simp only [Nat.mul_one] at htk ⊢
      rw [List.length_set, Array.toList_setIfInBounds, List.take_set, htk]
end Go.Proofs.Mem

namespace Go.Proofs.Mem
open Go.RowKit

/-- cells laid over other cells from a place on. -/
def lay (cs : List Value) (off : Nat) (xs : List Value) : List Value := cs.take off ++ (xs ++ cs.drop (off + xs.length))
theorem lay_mid (pre old post new : List Value) (off : Nat) (ho : off = pre.length) (h : old.length = new.length) : lay (pre ++ (old ++ post)) off new = pre ++ (new ++ post) := by
  subst ho
  unfold lay
  rw [List.take_append_of_le_length (Nat.le_refl _), List.take_length, List.drop_append, List.drop_of_length_le (by omega), ← h, Nat.add_sub_cancel_left, List.nil_append, List.drop_append_of_le_length (Nat.le_refl _), List.drop_length, List.nil_append]
theorem lay_length (cs : List Value) (off : Nat) (xs : List Value) (h : off + xs.length ≤ cs.length) : (lay cs off xs).length = cs.length := by
  unfold lay; simp only [List.length_append, List.length_take, List.length_drop]; omega

theorem foldl_lay (xs : List Value) : ∀ (j off : Nat) (cs : Array Value), off + j + xs.length ≤ cs.size →
    (xs.zipIdx j).foldl (fun cs x => cs.setIfInBounds (off + x.2) x.1) cs = (lay cs.toList (off + j) xs).toArray := by
  induction xs with
  | nil => intro j off cs _; simp [lay]
  | cons x xs ih =>
    intro j off cs h
    simp only [List.length_cons] at h
    rw [List.zipIdx_cons, List.foldl_cons, ih (j + 1) off _ (by simp; omega)]
    congr 1
    unfold lay
    simp only [Array.toList_setIfInBounds, List.length_cons]
    have hl : off + j < cs.toList.length := by simp; omega
    have A : (cs.toList.set (off + j) x).take (off + (j + 1)) = cs.toList.take (off + j) ++ [x] := by
      rw [List.set_eq_take_append_cons_drop, if_pos hl, List.take_append, List.take_of_length_le (by rw [List.length_take]; omega), List.length_take, Nat.min_eq_left (Nat.le_of_lt hl), show off + (j + 1) - (off + j) = 1 by omega]
      rfl
    have B : (cs.toList.set (off + j) x).drop (off + (j + 1) + xs.length) = cs.toList.drop (off + j + (xs.length + 1)) := by
      rw [List.drop_set_of_lt (by omega)]; congr 1; omega
    rw [A, B, List.append_assoc]
    rfl

theorem fill_cons {place : Nat → Option (Nat × Nat)} {cells : List Value} {i off size : Nat} {v : Value} {xs : List Value} {rest : List (Nat × Value)} (hp : place i = some (off, size)) (hv : v.cells = xs.toArray) (hs : xs.length = size) (hle : off + size ≤ cells.length) :
    Instr.fill place cells.toArray ((i, v) :: rest) = Instr.fill place (lay cells off xs).toArray rest := by
  simp only [Instr.fill, hp, hv, List.size_toArray, hs]
  rw [if_neg (by simp; omega)]
  congr 1
  have := foldl_lay xs 0 off cells.toArray (by simp; omega)
  simp only [Nat.add_zero] at this
  rw [← this]
  have e : xs.toArray.zipIdx = (xs.zipIdx).toArray := by apply Array.ext'; simp
  rw [e]
  simp
theorem fill_nil {place : Nat → Option (Nat × Nat)} {cells : List Value} : Instr.fill place cells.toArray [] = some cells.toArray := rfl

/-- a struct type's zero cells, and where its fields lie. -/
def structLay (P : Program) (t : TypeId) : Option (List Value × List (Nat × Nat)) :=
  match P.info? t, P.underlying t with
  | some it, some (.struct fields) =>
    match it.zero, fields.toList.mapM (fun f => (P.info? f.type).map fun i => (f.offset, i.size)) with
    | some z, some places => some (z.cells.toList, places)
    | _, _ => none
  | _, _ => none
theorem built_struct {P : Program} {t : TypeId} {zc : List Value} {places : List (Nat × Nat)} (h : structLay P t = some (zc, places)) (parts : List (Nat × Value)) : P.built t parts = Instr.fill (places.toArray[·]?) zc.toArray parts := by
  unfold structLay at h
  unfold Program.built
  cases hit : P.info? t with
  | none => simp [hit] at h
  | some it =>
    cases hu : P.underlying t with
    | none => simp [hit, hu] at h
    | some d =>
      cases d <;> try (simp [hit, hu] at h; done)
      case struct fields =>
        cases hz : it.zero with
        | none => simp [hit, hu, hz] at h
        | some z =>
          cases hp : fields.toList.mapM (fun f => (P.info? f.type).map fun i => (f.offset, i.size)) with
          | none => simp [hit, hu, hz, hp] at h
          | some pl =>
            simp only [hit, hu, hz, hp, Option.some.injEq, Prod.mk.injEq] at h
            obtain ⟨rfl, rfl⟩ := h
            simp [hz, hp]
/-- a build that the walk has come to, its run told. -/
theorem wpList_bld {P : Program} {ops : Array Oper} {rest : List Oper} {o : Oper} {a : Act} {w : World} {Q : Exit → Act → World → Prop} (hgd : o.guard = none) (t : TypeId) (l : List (Nat × Operand)) (ho : o.op = .build t l.toArray) (v : Value)
    (hr : (Instr.build t (l.map fun x => (x.1, a.eval x.2)).toArray).run P w = .ok v w) (h : wpList P ops Q rest (a.put o.dst v) w) : wpList P ops Q (o :: rest) a w := by
  refine wpList_plain hgd fun K hK => ?_
  unfold Oper.wp execOp
  simp only [ho, Sem.run_bind, List.map_toArray]
  have e : (l.map fun (x : Nat × Operand) => match x with | (i, y) => (i, a.eval y)) = l.map fun x => (x.1, a.eval x.2) := rfl
  rw [show ((fun (x : Nat × Operand) => match x with | (i, y) => (i, a.eval y)) : Nat × Operand → Nat × Value) = fun x => (x.1, a.eval x.2) from rfl, hr]
  exact hK _ _ h
/-- a part of a block that is known whole, stored. -/
theorem lay_cons (cs : List Value) (o : Nat) (v : Value) (vs : List Value) (h : o < cs.length) : lay (cs.set o v) (o + 1) vs = lay cs o (v :: vs) := by
  unfold lay
  have A : (cs.set o v).take (o + 1) = cs.take o ++ [v] := by
    rw [List.set_eq_take_append_cons_drop, if_pos h, List.take_append, List.take_of_length_le (by rw [List.length_take]; omega), List.length_take, Nat.min_eq_left (Nat.le_of_lt h), Nat.add_sub_cancel_left]
    rfl
  have B : (cs.set o v).drop (o + 1 + vs.length) = cs.drop (o + (v :: vs).length) := by
    rw [List.drop_set_of_lt (by omega), List.length_cons]; congr 1; omega
  rw [A, B, List.append_assoc]
  rfl
theorem heap_setCells {b : Nat} {T : TypeId} {fr : Nat × Nat} (vs : List Value) : ∀ (o : Nat) (w : World) (cur : List Value), w.heap[b]? = some (.cells cur.toArray T fr) → o + vs.length ≤ cur.length → (w.setCells b o vs).heap[b]? = some (.cells (lay cur o vs).toArray T fr) := by
  induction vs with
  | nil => intro o w cur h _; simp [World.setCells, lay, h]
  | cons v vs ih =>
    intro o w cur h hl
    simp only [List.length_cons] at hl
    rw [World.setCells, ih (o + 1) _ (cur.set o v) (set_at h o v) (by rw [List.length_set]; omega), lay_cons _ _ _ _ (by omega)]
theorem Keep.setCells {p : Nat → Prop} {a : World} {b : Nat} (vs : List Value) : ∀ (o : Nat) (w : World), Keep p a w → ¬ p b → Keep p a (w.setCells b o vs) := by
  induction vs with
  | nil => intro o w h _; exact h
  | cons v vs ih => intro o w h hp; exact ih (o + 1) _ (h.setCell v hp) hp
theorem there_of {w : World} {b o n : Nat} {cur : List Value} {T : TypeId} (h : w.heap[b]? = some (.cells cur.toArray T (0, 0))) (hn : o + n ≤ cur.length) : w.there b o n := by
  intro j hj
  refine ⟨?_, frozen_at h _⟩
  rw [cell_at h, List.getElem?_eq_getElem (by omega)]
  rfl
end Go.Proofs.Mem
