/-
  More on worlds and blocks: append onto a row of the call's own; two arrays of bytes held against each other. No program in sight.
-/
import Derived.Test.YtnpneippahdigaaDoorMem3
import Derived.Stop.BytesEq
namespace Go.Proofs.Mem
open Go.RowKit

section
variable {P : Program} (T E : TypeId) (i : TypeInfo) (z : Value) (bytes : Nat) (hT : P.underlying T = some (.slice E)) (hi : P.info? E = some i) (hz : i.zero = some z) (hs : i.size = 1) (hby : i.bytes = bytes) (hzs : z.cells.size = 1)
include hT hi hz hs hby hzs
/-- append(v, u...): v the call's own, u whatever can be read. -/
theorem append_own (w : World) (ty : TypeId) (base : Nat) (v u : Value) (cs news : List Value) {p : Nat → Prop} (hown : w.ownsRow base E 1 v cs.length cs) (hu : Cells w p u news) (h1 : ∀ x ∈ news, x.oneCell' = true)
    (hb : (cs.length + news.length) * bytes ≤ 140737488355328) (hl : cs.length + news.length ≤ 9223372036854775807) (hbase : base ≤ w.heap.size) :
    ∃ v' w', (Builtin.append_ #[T, T] ty #[v, u]).run P w = .ok v' w' ∧ w'.ownsRow base E 1 v' (cs ++ news).length (cs ++ news) ∧ w.grownBy w' v.ownBlock := by
  obtain ⟨a, len, cap, rfl, h2, h3, h4, h5⟩ := hu
  subst h2
  by_cases h0 : 0 < news.length
  · obtain ⟨blk, off, rfl, _, hc⟩ := h5 h0
    obtain ⟨v', w', hr, h6, h7, _⟩ := run_append_own (P := P) w base T ty E i z 1 bytes hT hi hz hs hby hzs (by decide) v cs.length cs hown ⟨blk, off, none⟩ news.length cap news (by omega) (fun j x hj => by
      rw [addr_add, hc j (by
        rcases Nat.lt_or_ge j news.length with h | h
        · exact h
        · rw [List.getElem?_eq_none h] at hj; cases hj)]
      exact hj) h1 (by simpa [maxLen] using hl) hb hbase
    exact ⟨v', w', hr, by rwa [List.length_append], h7⟩
  · obtain rfl : news = [] := List.eq_nil_of_length_eq_zero (by omega)
    rcases hown.2 with ⟨rfl, hn⟩ | ⟨g, c, cur, rfl, hg, hgg, hnc, hcm, hcs, htk⟩
    · refine ⟨.slice none 0 0, w, ?_, ?_, ⟨rfl, rfl, rfl, Nat.le_refl _, fun _ _ _ => rfl⟩⟩
      · cases a <;> simp [Builtin.append_, run_underlying hT, sizeOf, typeInfo, hi, Builtin.lenOf, Builtin.firstCells, loadCells, loadCellsFrom]
      · rw [List.append_nil]; exact hown
    · refine ⟨.slice (some ⟨g, 0, none⟩) cs.length c, w, ?_, ?_, ⟨rfl, rfl, rfl, Nat.le_refl _, fun _ _ _ => rfl⟩⟩
      · cases a <;> simp [Builtin.append_, run_underlying hT, sizeOf, typeInfo, hi, Builtin.lenOf, Builtin.firstCells, loadCells, loadCellsFrom, hnc, storeCells]
      · rw [List.append_nil]; exact hown
end

theorem owns_keep {w w' : World} {base : Nat} {E : TypeId} {v : Value} {cs : List Value} (h : w.ownsRow base E 1 v cs.length cs) (k : Keep (· < w.heap.size) w w') : w'.ownsRow base E 1 v cs.length cs :=
  h.kept (row := none) ⟨k.os, k.tape, k.output, k.size, fun j hj _ => k.block j hj⟩ (by cases hv : v.ownBlock <;> simp)
theorem owns_cells {w : World} {base : Nat} {E : TypeId} {v : Value} {cs : List Value} (h : w.ownsRow base E 1 v cs.length cs) : Cells w (fun b => base ≤ b) v cs := by
  rcases h.2 with ⟨rfl, hn⟩ | ⟨g, c, cur, rfl, hg, hgg, hnc, hcm, hcs, htk⟩
  · obtain rfl : cs = [] := List.eq_nil_of_length_eq_zero hn
    exact Cells.nil _ _
  · refine ⟨_, _, _, rfl, rfl, hnc, hcm, fun _ => ⟨g, 0, rfl, hg, fun j hj => ?_⟩⟩
    have : w.cell? ⟨g, 0 + j, none⟩ = cur[j]? := by simp [World.cell?, hgg]
    have e := congrArg (fun l : List Value => l[j]?) htk
    simp only [List.getElem?_take, Nat.mul_one, hj, if_true] at e
    rw [this, ← e]
    simp
/-- an empty row of the call's own: '[]T{}'. -/
theorem owns_empty (w : World) (base : Nat) (E : TypeId) (hb : base ≤ w.heap.size) : (w.alloc (.cells #[] E)).ownsRow base E 1 (.slice (some ⟨w.heap.size, 0, none⟩) 0 0) ([] : List Value).length [] :=
  ⟨rfl, .inr ⟨w.heap.size, 0, #[], rfl, hb, heap_alloc_new w _, Nat.le_refl _, by decide, rfl, rfl⟩⟩
theorem Keep.grownBy {p : Nat → Prop} {w w' : World} {B : Nat} {v : Value} (hg : w.grownBy w' v.ownBlock) (hp : ∀ k, p k → k < w.heap.size ∧ k < B) {E : TypeId} {cs : List Value} (ho : w.ownsRow B E 1 v cs.length cs) : Keep p w w' := by
  refine ⟨hg.os, hg.tape, hg.output, hg.size, fun k hk => hg.block k (hp k hk).1 (fun e => ?_)⟩
  have := (ho.lt k e.symm).1
  have := (hp k hk).2
  omega

section
variable {P : Program} (T E : TypeId) (i : TypeInfo) (z : Value) (bytes : Nat) (hT : P.underlying T = some (.slice E)) (hi : P.info? E = some i) (hz : i.zero = some z) (hs : i.size = 1) (hby : i.bytes = bytes) (hzs : z.cells.size = 1)
include hT hi hz hs hby hzs
/-- the same, with what stays told by 'Keep'. -/
theorem append_keep (w : World) (ty : TypeId) (base : Nat) (v u : Value) (cs news : List Value) {p : Nat → Prop} (hown : w.ownsRow base E 1 v cs.length cs) (hu : Cells w p u news) (h1 : ∀ x ∈ news, x.oneCell' = true)
    (hb : (cs.length + news.length) * bytes ≤ 140737488355328) (hl : cs.length + news.length ≤ 9223372036854775807) (hbase : base ≤ w.heap.size) :
    ∃ v' w', (Builtin.append_ #[T, T] ty #[v, u]).run P w = .ok v' w' ∧ (w'.ownsRow base E 1 v' (cs ++ news).length (cs ++ news) ∧ Keep (· < base) w w' ∧ base ≤ w'.heap.size) := by
  obtain ⟨v', w', h1, h2, h3⟩ := append_own T E i z bytes hT hi hz hs hby hzs w ty base v u cs news hown hu h1 hb hl hbase
  exact ⟨v', w', h1, h2, Keep.grownBy h3 (fun k h => ⟨Nat.lt_of_lt_of_le h hbase, h⟩) hown, Nat.le_trans hbase h3.size⟩
/-- '[]T{}', and append onto it at once. -/
theorem append_first (w : World) (ty : TypeId) (u : Value) (news : List Value) {p : Nat → Prop} (hu : Cells w p u news) (h1 : ∀ x ∈ news, x.oneCell' = true)
    (hb : news.length * bytes ≤ 140737488355328) :
    ∃ v' w', (Builtin.append_ #[T, T] ty #[.slice (some ⟨w.heap.size, 0, none⟩) 0 0, u]).run P (w.alloc (.cells #[] E)) = .ok v' w' ∧ (w'.ownsRow w.heap.size E 1 v' news.length news ∧ Keep (· < w.heap.size) w w' ∧ w.heap.size ≤ w'.heap.size) := by
  have k0 : Keep (· < w.heap.size) w (w.alloc (.cells #[] E)) := (Keep.refl _ _).alloc _ (fun _ h => h)
  have hl := hu.len_le
  obtain ⟨v', w', h1, h2, h3, h4⟩ := append_keep T E i z bytes hT hi hz hs hby hzs (w.alloc (.cells #[] E)) ty w.heap.size _ u [] news (owns_empty w w.heap.size E (Nat.le_refl _)) (hu.lt.keep k0 (fun _ h => h.1)) h1 (by simpa using hb) (by simpa using hl) (by simp)
  rw [List.nil_append] at h2
  exact ⟨v', w', h1, h2, k0.trans h3, h4⟩
/-- append(v, x), with the row that holds x. -/
theorem append_one (w : World) (ty : TypeId) (base : Nat) (v x : Value) (cs : List Value) (hown : w.ownsRow base E 1 v cs.length cs) (h1 : x.oneCell' = true)
    (hb : (cs.length + 1) * bytes ≤ 140737488355328) (hl : cs.length + 1 ≤ 9223372036854775807) (hbase : base ≤ w.heap.size) :
    ∃ v' w', (Builtin.append_ #[T, T] ty #[v, .slice (some ⟨w.heap.size, 0, none⟩) 1 1]).run P (w.alloc (.cells #[x] E)) = .ok v' w' ∧ (w'.ownsRow base E 1 v' (cs ++ [x]).length (cs ++ [x]) ∧ Keep (· < base) w w' ∧ base ≤ w'.heap.size) := by
  have k0 : Keep (· < w.heap.size) w (w.alloc (.cells #[x] E)) := (Keep.refl _ _).alloc _ (fun _ h => h)
  have hc : Cells (w.alloc (.cells #[x] E)) (fun _ => True) (.slice (some ⟨w.heap.size, 0, none⟩) 1 1) [x] := by
    have := Cells.of_block (w := w.alloc (.cells #[x] E)) (b := w.heap.size) (off := 0) (n := 1) (cap := 1) (cur := [x]) (p := fun _ => True) (heap_alloc_new w _) trivial (Nat.le_refl _) (Nat.le_refl _) (by decide)
    simpa using this
  obtain ⟨v', w', h2, h3, h4, h5⟩ := append_keep T E i z bytes hT hi hz hs hby hzs (w.alloc (.cells #[x] E)) ty base v _ cs [x] (owns_keep hown k0) hc (fun y hy => by simp only [List.mem_singleton] at hy; rw [hy]; exact h1) (by simpa using hb) (by simpa using hl) (by simp; omega)
  exact ⟨v', w', h2, h3, (k0.mono (fun k h => Nat.lt_of_lt_of_le h hbase)).trans h4, h5⟩
end

theorem ints_cell {F : List Nat} (h : ∀ x ∈ F, x < 256) : ints .u8 F = (F.map UInt8.ofNat).map Extern.Stop.cell := by
  unfold ints
  rw [List.map_map]
  apply List.map_congr_left
  intro x hx
  have := h x hx
  simp [Extern.Stop.cell, Nat.mod_eq_of_lt this]
theorem map_beq {F G : List Nat} (hF : ∀ x ∈ F, x < 256) (hG : ∀ x ∈ G, x < 256) : (F.map UInt8.ofNat == G.map UInt8.ofNat) = (F == G) := by
  rw [Bool.eq_iff_iff]
  simp only [beq_iff_eq]
  constructor
  · intro h
    have e : ∀ L : List Nat, (∀ x ∈ L, x < 256) → (L.map UInt8.ofNat).map UInt8.toNat = L := by
      intro L hL
      rw [List.map_map]
      conv => rhs; rw [← List.map_id L]
      apply List.map_congr_left
      intro x hx
      simp [Nat.mod_eq_of_lt (hL x hx)]
    rw [← e F hF, ← e G hG, h]
  · intro h; rw [h]
/-- two arrays of bytes, ==. -/
theorem eql_bytes {P : Program} (T E n : Nat) (hT : P.underlying T = some (.array n E)) (hE : P.underlying E = some (.int .u8)) (hs : (P.info? E).map (·.size) = some 1) (w : World) {F G : List Nat} (hF : ∀ x ∈ F, x < 256) (hG : ∀ x ∈ G, x < 256) (hFl : F.length = n) (hGl : G.length = n) :
    (binOp .eql T (.agg (ints .u8 F).toArray) (.agg (ints .u8 G).toArray)).run P w = .ok (.bool (F == G)) w := by
  obtain ⟨i, hi, h1⟩ : ∃ i, P.info? E = some i ∧ i.size = 1 := by
    cases hq : P.info? E with
    | none => simp [hq] at hs
    | some i => exact ⟨i, rfl, by simpa [hq] using hs⟩
  rw [ints_cell hF, ints_cell hG, run_eql_bytes w T E n hT hE (fun w => by simp [sizeOf, typeInfo, hi, h1]) _ _ (by simpa using hFl) (by simpa using hGl), map_beq hF hG]
/-- an append that the walk has come to, its run told. -/
theorem wpList_app {P : Program} {ops : Array Oper} {rest : List Oper} {o : Oper} {a : Act} {w : World} {Q : Exit → Act → World → Prop} (hgd : o.guard = none) (s x : Operand) (T T' : TypeId)
    (ho : o.op = .call { callee := .builtin .append, args := #[s, x], argTypes := #[T, T'] }) (R : Value → World → Prop)
    (hr : ∃ v' w', (Builtin.append_ #[T, T'] o.type #[a.eval s, a.eval x]).run P w = .ok v' w' ∧ R v' w') (h : ∀ v' w', R v' w' → wpList P ops Q rest (a.put o.dst v') w') : wpList P ops Q (o :: rest) a w := by
  obtain ⟨v', w', hr, hR⟩ := hr
  refine wpList_plain hgd fun K hK => ?_
  unfold Oper.wp execOp
  simp only [ho, resolve, invoke, builtin, Sem.run_bind, Sem.run_pure, Result.andThen_ok, List.map_toArray, List.map_cons, List.map_nil, hr]
  exact hK _ _ (h v' w' hR)
/-- the same, where a guard stands ahead of the append and holds. -/
theorem wpList_app_if {P : Program} {ops : Array Oper} {rest : List Oper} {o : Oper} {a : Act} {w : World} {Q : Exit → Act → World → Prop} (s x : Operand) (T T' : TypeId)
    (ho : o.op = .call { callee := .builtin .append, args := #[s, x], argTypes := #[T, T'] }) (hw : Region.wanted o (yielded ops a.tmps) = true) (R : Value → World → Prop)
    (hr : ∃ v' w', (Builtin.append_ #[T, T'] o.type #[a.eval s, a.eval x]).run P w = .ok v' w' ∧ R v' w') (h : ∀ v' w', R v' w' → wpList P ops Q rest (a.put o.dst v') w') : wpList P ops Q (o :: rest) a w := by
  obtain ⟨v', w', hr, hR⟩ := hr
  refine wpList_step fun K hK => ?_
  rw [if_pos hw]
  unfold Oper.wp execOp
  simp only [ho, resolve, invoke, builtin, Sem.run_bind, Sem.run_pure, Result.andThen_ok, List.map_toArray, List.map_cons, List.map_nil, hr]
  exact hK _ _ (h v' w' hR)
end Go.Proofs.Mem
