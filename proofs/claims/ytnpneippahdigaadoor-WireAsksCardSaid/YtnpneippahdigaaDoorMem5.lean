/-
  More on worlds and blocks: rows that lie in blocks of their own, several beside each other. No program in sight.
-/
import Derived.Test.YtnpneippahdigaaDoorMem4
import Derived.Maps.AppendAt
import Derived.Laws.MakeOwn
namespace Go.Proofs.Mem
open Go.RowKit

/-- v is nil or all of a block of its own; it reads as cs. -/
def Row (w : World) (E : TypeId) (v : Value) (cs : List Value) : Prop := w.ownsRow 0 E 1 v cs.length cs
theorem Row.nil (w : World) (E : TypeId) : Row w E (.slice none 0 0) [] := World.ownsRow_nil w 0 E 1
theorem Row.lt {w : World} {E : TypeId} {v : Value} {cs : List Value} (h : Row w E v cs) {k : Nat} (hk : v.ownBlock = some k) : k < w.heap.size := (World.ownsRow.lt h k hk).2
theorem Row.keep {w w' : World} {E : TypeId} {v : Value} {cs : List Value} {q : Nat → Prop} (h : Row w E v cs) (k : Keep q w w') (hq : ∀ b, v.ownBlock = some b → q b) : Row w' E v cs := by
  refine ⟨h.1, ?_⟩
  rcases h.2 with hn | ⟨g, cap, cur, rfl, hb, hgg, rest⟩
  · exact .inl hn
  · exact .inr ⟨g, cap, cur, rfl, hb, (k.block g (hq g rfl)).trans hgg, rest⟩
theorem Row.cells {w : World} {E : TypeId} {v : Value} {cs : List Value} (h : Row w E v cs) : Cells w (fun b => v.ownBlock = some b) v cs := by
  rcases h.2 with ⟨rfl, hn⟩ | ⟨g, c, cur, rfl, hg, hgg, hnc, hcm, hcs, htk⟩
  · obtain rfl : cs = [] := List.eq_nil_of_length_eq_zero hn
    exact Cells.nil _ _
  · refine ⟨_, _, _, rfl, rfl, hnc, hcm, fun _ => ⟨g, 0, rfl, rfl, fun j hj => ?_⟩⟩
    have : w.cell? ⟨g, 0 + j, none⟩ = cur[j]? := by simp [World.cell?, hgg]
    have e := congrArg (fun l : List Value => l[j]?) htk
    simp only [List.getElem?_take, Nat.mul_one, hj, if_true] at e
    rw [this, ← e]
    simp
theorem Row.form {w : World} {E : TypeId} {v : Value} {cs : List Value} (h : Row w E v cs) : ∃ a c, v = .slice a cs.length c := by
  rcases h.2 with ⟨rfl, hn⟩ | ⟨g, c, cur, rfl, _⟩
  · exact ⟨none, 0, by rw [hn]⟩
  · exact ⟨_, _, rfl⟩

section
variable {P : Program} (T E : TypeId) (i : TypeInfo) (z : Value) (bytes : Nat) (hT : P.underlying T = some (.slice E)) (hi : P.info? E = some i) (hz : i.zero = some z) (hs : i.size = 1) (hby : i.bytes = bytes) (hzs : z.cells.size = 1)
include hT hi hz hs hby hzs
/-- append(v, u...): where the new row lies. -/
theorem append_at (w : World) (ty : TypeId) (v u : Value) (cs news : List Value) {p : Nat → Prop} (hown : Row w E v cs) (hu : Cells w p u news) (h1 : ∀ x ∈ news, x.oneCell' = true)
    (hb : (cs.length + news.length) * bytes ≤ 140737488355328) (hl : cs.length + news.length ≤ 9223372036854775807) :
    ∃ v' w', (Builtin.append_ #[T, T] ty #[v, u]).run P w = .ok v' w' ∧ (Row w' E v' (cs ++ news) ∧ Keep (fun k => k < w.heap.size ∧ v.ownBlock ≠ some k) w w' ∧ ∀ k, v'.ownBlock = some k → v.ownBlock = some k ∨ w.heap.size ≤ k) := by
  obtain ⟨a, len, cap, rfl, h2, h3, h4, h5⟩ := hu
  subst h2
  by_cases h0 : 0 < news.length
  · obtain ⟨blk, off, rfl, _, hc⟩ := h5 h0
    obtain ⟨v', w', hr, h6, h7, _, h8⟩ := run_append_own_at (P := P) w 0 T ty E i z 1 bytes hT hi hz hs hby hzs (by decide) v cs.length cs hown ⟨blk, off, none⟩ news.length cap news (by omega) (fun j x hj => by
      rw [addr_add, hc j (by
        rcases Nat.lt_or_ge j news.length with h | h
        · exact h
        · rw [List.getElem?_eq_none h] at hj; cases hj)]
      exact hj) h1 (by simpa [maxLen] using hl) hb (Nat.zero_le _)
    refine ⟨v', w', hr, by unfold Row; rwa [List.length_append], ⟨h7.os, h7.tape, h7.output, h7.size, fun k hk => h7.block k hk.1 (fun e => hk.2 e.symm)⟩, fun k hk => ?_⟩
    rcases h8 with h8 | h8
    · exact .inl (h8 ▸ hk)
    · rw [hk] at h8; injection h8 with h8; exact .inr (by omega)
  · obtain rfl : news = [] := List.eq_nil_of_length_eq_zero (by omega)
    rcases hown.2 with ⟨rfl, hn⟩ | ⟨g, c, cur, rfl, hg, hgg, hnc, hcm, hcs, htk⟩
    · refine ⟨.slice none 0 0, w, ?_, ?_, Keep.refl _ _, fun k hk => by cases hk⟩
      · cases a <;> simp [Builtin.append_, run_underlying hT, sizeOf, typeInfo, hi, Builtin.lenOf, Builtin.firstCells, loadCells, loadCellsFrom]
      · rw [List.append_nil]; exact hown
    · refine ⟨.slice (some ⟨g, 0, none⟩) cs.length c, w, ?_, ?_, Keep.refl _ _, fun k hk => .inl hk⟩
      · cases a <;> simp [Builtin.append_, run_underlying hT, sizeOf, typeInfo, hi, Builtin.lenOf, Builtin.firstCells, loadCells, loadCellsFrom, hnc, storeCells]
      · rw [List.append_nil]; exact hown
/-- append(v, x), with the row that holds x. -/
theorem append_at_one (w : World) (ty : TypeId) (v x : Value) (cs : List Value) (hown : Row w E v cs) (h1 : x.oneCell' = true)
    (hb : (cs.length + 1) * bytes ≤ 140737488355328) (hl : cs.length + 1 ≤ 9223372036854775807) :
    ∃ v' w', (Builtin.append_ #[T, T] ty #[v, .slice (some ⟨w.heap.size, 0, none⟩) 1 1]).run P (w.alloc (.cells #[x] E)) = .ok v' w' ∧
      (Row w' E v' (cs ++ [x]) ∧ Keep (fun k => k < w.heap.size ∧ v.ownBlock ≠ some k) w w' ∧ ∀ k, v'.ownBlock = some k → v.ownBlock = some k ∨ w.heap.size ≤ k) := by
  have k0 : Keep (· < w.heap.size) w (w.alloc (.cells #[x] E)) := (Keep.refl _ _).alloc _ (fun _ h => h)
  have hc : Cells (w.alloc (.cells #[x] E)) (fun _ => True) (.slice (some ⟨w.heap.size, 0, none⟩) 1 1) [x] := by
    have := Cells.of_block (w := w.alloc (.cells #[x] E)) (b := w.heap.size) (off := 0) (n := 1) (cap := 1) (cur := [x]) (p := fun _ => True) (heap_alloc_new w _) trivial (Nat.le_refl _) (Nat.le_refl _) (by decide)
    simpa using this
  obtain ⟨v', w', h2, h3, h4, h5⟩ := append_at T E i z bytes hT hi hz hs hby hzs (w.alloc (.cells #[x] E)) ty v _ cs [x] (hown.keep k0 (fun b hb => hown.lt hb)) hc (fun y hy => by simp only [List.mem_singleton] at hy; rw [hy]; exact h1) (by simpa using hb) (by simpa using hl)
  refine ⟨v', w', h2, h3, (k0.mono (fun k h => h.1)).trans (h4.mono (fun k h => ⟨Nat.lt_of_lt_of_le h.1 k0.size, h.2⟩)), fun k hk => ?_⟩
  rcases h5 k hk with h | h
  · exact .inl h
  · exact .inr (Nat.le_trans k0.size h)
end
/-- a block of two rows of their own. -/
def PairAt (w : World) (T E : TypeId) (b : Nat) (cs ds : List Value) : Prop :=
  ∃ sv tv, w.heap[b]? = some (.cells #[sv, tv] T (0, 0)) ∧ Row w E sv cs ∧ Row w E tv ds ∧ (∀ k, sv.ownBlock = some k → b < k ∧ tv.ownBlock ≠ some k) ∧ (∀ k, tv.ownBlock = some k → b < k)
theorem PairAt.lt {w : World} {T E : TypeId} {b : Nat} {cs ds : List Value} (h : PairAt w T E b cs ds) : b < w.heap.size := by
  obtain ⟨_, _, h, _⟩ := h
  exact (Array.getElem?_eq_some_iff.1 h).1
theorem PairAt.keep {w w' : World} {T E : TypeId} {b : Nat} {cs ds : List Value} {q : Nat → Prop} (h : PairAt w T E b cs ds) (k : Keep q w w') (hq : ∀ j, b ≤ j → j < w.heap.size → q j) : PairAt w' T E b cs ds := by
  have hb := h.lt
  obtain ⟨sv, tv, h1, h2, h3, h4, h5⟩ := h
  exact ⟨sv, tv, (k.block b (hq b (Nat.le_refl _) hb)).trans h1, h2.keep k (fun j hj => hq j (Nat.le_of_lt (h4 j hj).1) (h2.lt hj)), h3.keep k (fun j hj => hq j (Nat.le_of_lt (h5 j hj)) (h3.lt hj)), h4, h5⟩
/-- the first row is changed, and the block told. -/
theorem pair_first {w w3 : World} {T E : TypeId} {b : Nat} {ds cs' : List Value} {sv tv v1 : Value} (hh : w.heap[b]? = some (.cells #[sv, tv] T (0, 0))) (ht : Row w E tv ds)
    (h4 : ∀ k, sv.ownBlock = some k → b < k ∧ tv.ownBlock ≠ some k) (h5 : ∀ k, tv.ownBlock = some k → b < k) (r3 : Row w3 E v1 cs') (k3 : Keep (fun k => k < w.heap.size ∧ sv.ownBlock ≠ some k) w w3) (o3 : ∀ k, v1.ownBlock = some k → sv.ownBlock = some k ∨ w.heap.size ≤ k) :
    PairAt (w3.setCell ⟨b, 0, none⟩ v1) T E b cs' ds := by
  have hb : b < w.heap.size := (Array.getElem?_eq_some_iff.1 hh).1
  have hpb : b < w.heap.size ∧ sv.ownBlock ≠ some b := ⟨hb, fun h => by have := (h4 b h).1; omega⟩
  have h3 : w3.heap[b]? = some (.cells ([sv, tv] : List Value).toArray T (0, 0)) := (k3.block b hpb).trans hh
  have kk : Keep (· ≠ b) w3 (w3.setCell ⟨b, 0, none⟩ v1) := (Keep.refl _ _).setCell _ (by simp)
  refine ⟨v1, tv, by rw [set_at h3]; rfl, r3.keep kk (fun k hk => ?_), (ht.keep k3 (fun k hk => ⟨ht.lt hk, fun h => (h4 k h).2 hk⟩)).keep kk (fun k hk => by have := h5 k hk; omega), fun k hk => ?_, h5⟩
  · rcases o3 k hk with h | h
    · have := (h4 k h).1; omega
    · omega
  · rcases o3 k hk with h | h
    · exact h4 k h
    · exact ⟨by omega, fun h' => by have := ht.lt h'; omega⟩
/-- the second row is changed, and the block told. -/
theorem pair_second {w w3 : World} {T E : TypeId} {b : Nat} {cs ds' : List Value} {sv tv v1 : Value} (hh : w.heap[b]? = some (.cells #[sv, tv] T (0, 0))) (hs : Row w E sv cs)
    (h4 : ∀ k, sv.ownBlock = some k → b < k ∧ tv.ownBlock ≠ some k) (h5 : ∀ k, tv.ownBlock = some k → b < k) (r3 : Row w3 E v1 ds') (k3 : Keep (fun k => k < w.heap.size ∧ tv.ownBlock ≠ some k) w w3) (o3 : ∀ k, v1.ownBlock = some k → tv.ownBlock = some k ∨ w.heap.size ≤ k) :
    PairAt (w3.setCell ⟨b, 1, none⟩ v1) T E b cs ds' := by
  have hb : b < w.heap.size := (Array.getElem?_eq_some_iff.1 hh).1
  have hpb : b < w.heap.size ∧ tv.ownBlock ≠ some b := ⟨hb, fun h => by have := h5 b h; omega⟩
  have h3 : w3.heap[b]? = some (.cells ([sv, tv] : List Value).toArray T (0, 0)) := (k3.block b hpb).trans hh
  have kk : Keep (· ≠ b) w3 (w3.setCell ⟨b, 1, none⟩ v1) := (Keep.refl _ _).setCell _ (by simp)
  have hb1 : ∀ k, v1.ownBlock = some k → b < k := fun k hk => by
    rcases o3 k hk with h | h
    · exact h5 k h
    · omega
  refine ⟨sv, v1, by rw [set_at h3]; rfl, (hs.keep k3 (fun k hk => ⟨hs.lt hk, (h4 k hk).2⟩)).keep kk (fun k hk => by have := (h4 k hk).1; omega), r3.keep kk (fun k hk => by have := hb1 k hk; omega), fun k hk => ⟨(h4 k hk).1, fun h' => ?_⟩, hb1⟩
  rcases o3 k h' with h | h
  · exact (h4 k hk).2 h
  · have := hs.lt hk; omega
/-- make([]int.., c): zeros. -/
theorem make_ints {P : Program} (T E : TypeId) (i : TypeInfo) (k : IntKind) (bytes : Nat) (hT : P.underlying T = some (.slice E)) (hi : P.info? E = some i) (hz : i.zero = some (.int k 0)) (hs : i.size = 1) (hby : i.bytes = bytes) (l c : Nat) (hlc : l ≤ c) (hb : bytes * c ≤ 140737488355328) (hc : c ≤ 140737488355328) (w : World) :
    (Instr.makeSlice T (.int .i64 (l : Int)) (.int .i64 (c : Int))).run P w = .ok (.slice (some ⟨w.heap.size, 0, none⟩) l c) (w.alloc (.cells (ints k (List.replicate c 0)).toArray E)) := by
  have hb' : (i.bytes : Int) * (c : Int) ≤ 281474976710656 := by
    have h : ((i.bytes * c : Nat) : Int) ≤ 281474976710656 := by rw [hby]; omega
    rwa [Int.natCast_mul] at h
  rw [run_make w T E i (.int k 0) hT hi hz .i64 .i64 (l : Int) (c : Int) (by omega) (by omega) hb' (by omega)]
  simp only [Int.toNat_natCast, hs, Nat.mul_one]
  congr 3
  apply Array.ext
  · simp [madeCells, ints]
  · intro j h1 h2
    simp [madeCells, ints, Value.cells, Nat.mod_one]
theorem Row.blk {w : World} {E : TypeId} {v : Value} {cs : List Value} (h : Row w E v cs) (h0 : 0 < cs.length) :
    ∃ g c, v = .slice (some ⟨g, 0, none⟩) cs.length c ∧ cs.length ≤ c ∧ c ≤ 9223372036854775807 ∧ g < w.heap.size ∧ (∀ i, i < cs.length → w.cell? ⟨g, i, none⟩ = cs[i]?) ∧ ∀ i, w.frozen? ⟨g, i, none⟩ = false := by
  obtain ⟨g, off, c, e, h2, h3, h4, h5⟩ := h.cells.at_ h0
  rcases h.2 with ⟨rfl, hn⟩ | ⟨g', c', cur, rfl, hg, hgg, hnc, hcm, hcs, htk⟩
  · cases e
  · injection e with e1 e2 e3
    injection e1 with e1
    injection e1 with e1 e4
    subst e1 e3 e4
    exact ⟨g', c', rfl, h2, h3, (Array.getElem?_eq_some_iff.1 hgg).1, fun i hi => by have := h5 i hi; rwa [Nat.zero_add] at this, fun i => frozen_at hgg i⟩
theorem Row.set {w : World} {E : TypeId} {g n c : Nat} {cs : List Value} (h : Row w E (.slice (some ⟨g, 0, none⟩) n c) cs) (i : Nat) (_ : i < cs.length) (x : Value) : Row (w.setCell ⟨g, i, none⟩ x) E (.slice (some ⟨g, 0, none⟩) n c) (cs.set i x) := by
  rcases h.2 with ⟨e, hn⟩ | ⟨g', c', cur, e, hg, hgg, hnc, hcm, hcs, htk⟩
  · cases e
  · injection e with e1 e2 e3
    injection e1 with e1
    injection e1 with e1
    subst e1 e2 e3
    refine ⟨by simp, .inr ⟨g, c, cur.setIfInBounds i x, by rw [List.length_set], Nat.zero_le _, ?_, by rw [List.length_set]; exact hnc, hcm, by simpa using hcs, ?_⟩⟩
    · have := set_at (w := w) (b := g) (cs := cur.toList) (T := E) (fr := (0, 0)) (by simpa using hgg) i x
      rw [this]
      congr 2
      apply Array.ext'
      simp
    · simp only [Nat.mul_one] at htk ⊢
      rw [List.length_set, Array.toList_setIfInBounds, List.take_set, htk]
end Go.Proofs.Mem
