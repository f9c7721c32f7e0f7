/-
  Rows of structs, of any number of cells each: read, kept, of their own, grown by one. No program in sight.
-/
import Derived.Test.YtalihehmbiohlaaDoorMem
import Derived.Laws.AppendOwn
import Derived.RangeFuncFrom
namespace Go.Proofs.Mem
open Go Go.RowKit

/-- v reads as these structs of k cells each. -/
def AtS (w : World) (p : Nat → Prop) (k : Nat) (v : Value) (ls : List (List Value)) : Prop :=
  ∃ a len cap, v = .slice a len cap ∧ len = ls.length ∧ len ≤ cap ∧ cap ≤ maxLen ∧ ∀ i x, ls[i]? = some x → ∃ blk off, a = some ⟨blk, off, none⟩ ∧ p blk ∧ w.rangeAt blk (off + i * k) x
section
variable {w w' : World} {p q : Nat → Prop} {k : Nat} {v : Value} {ls : List (List Value)}
theorem AtS.keep (h : AtS w p k v ls) (kk : Keep q w w') (hq : ∀ b, p b → q b) : AtS w' p k v ls := by
  obtain ⟨a, len, cap, rfl, h1, h2, h3, h4⟩ := h
  refine ⟨a, len, cap, rfl, h1, h2, h3, fun i x hx => ?_⟩
  obtain ⟨blk, off, rfl, hp, hr⟩ := h4 i x hx
  exact ⟨blk, off, rfl, hp, fun j y hy => (kk.cell (x := ⟨blk, off + i * k + j, none⟩) (hq _ hp)).trans (hr j y hy)⟩
theorem AtS.mono (h : AtS w p k v ls) (hq : ∀ b, p b → q b) : AtS w q k v ls := by
  obtain ⟨a, len, cap, rfl, h1, h2, h3, h4⟩ := h
  refine ⟨a, len, cap, rfl, h1, h2, h3, fun i x hx => ?_⟩
  obtain ⟨blk, off, rfl, hp, hr⟩ := h4 i x hx
  exact ⟨blk, off, rfl, hq _ hp, hr⟩
theorem AtS.lt (h : AtS w p k v ls) (h0 : ∀ x ∈ ls, x ≠ []) : AtS w (fun b => b < w.heap.size ∧ p b) k v ls := by
  obtain ⟨a, len, cap, rfl, h1, h2, h3, h4⟩ := h
  refine ⟨a, len, cap, rfl, h1, h2, h3, fun i x hx => ?_⟩
  obtain ⟨blk, off, rfl, hp, hr⟩ := h4 i x hx
  obtain ⟨y, ys, rfl⟩ := List.exists_cons_of_ne_nil (h0 x (List.mem_of_getElem? hx))
  exact ⟨blk, off, rfl, ⟨World.block_lt_of_cell? w _ (hr 0 _ rfl), hp⟩, hr⟩
theorem AtS.nil (w : World) (p : Nat → Prop) (k : Nat) : AtS w p k (.slice none 0 0) [] := ⟨none, 0, 0, rfl, rfl, Nat.le_refl _, Nat.zero_le _, fun i x h => by simp at h⟩
theorem AtS.form (h : AtS w p k v ls) : ∃ a c, v = .slice a ls.length c ∧ ls.length ≤ c ∧ c ≤ 9223372036854775807 := by
  obtain ⟨a, len, cap, rfl, rfl, h2, h3, _⟩ := h
  exact ⟨a, cap, rfl, h2, by simpa [maxLen] using h3⟩
theorem AtS.get {a : Option Addr} {n c : Nat} (h : AtS w p k (.slice a n c) ls) (i : Nat) {x : List Value} (hx : ls[i]? = some x) : ∃ blk off, a = some ⟨blk, off, none⟩ ∧ p blk ∧ w.rangeAt blk (off + i * k) x := by
  obtain ⟨a', len, cap, e, h1, h2, h3, h4⟩ := h
  cases e
  exact h4 i _ hx
/-- a row of structs in a block of its own. -/
def OwnS (B : Nat) (w : World) (E : TypeId) (k : Nat) (v : Value) (ls : List (List Value)) : Prop := w.ownsRow B E k v ls.length ls.flatten
variable {B : Nat} {E : TypeId}
theorem OwnS.nil (B : Nat) (w : World) (E : TypeId) (k : Nat) : OwnS B w E k (.slice none 0 0) [] := World.ownsRow_nil w B E k
theorem OwnS.lt (h : OwnS B w E k v ls) {j : Nat} (hj : v.ownBlock = some j) : B ≤ j ∧ j < w.heap.size := World.ownsRow.lt h j hj
theorem OwnS.keep (h : OwnS B w E k v ls) (kk : Keep q w w') (hq : ∀ b, v.ownBlock = some b → q b) : OwnS B w' E k v ls := by
  refine ⟨h.1, ?_⟩
  rcases h.2 with hn | ⟨g, cap, cur, rfl, hb, hgg, rest⟩
  · exact .inl hn
  · exact .inr ⟨g, cap, cur, rfl, hb, (kk.block g (hq g rfl)).trans hgg, rest⟩
theorem OwnS.less {C : Nat} (h : OwnS B w E k v ls) (hc : C ≤ B) : OwnS C w E k v ls := by
  refine ⟨h.1, ?_⟩
  rcases h.2 with hn | ⟨g, cap, cur, rfl, hb, rest⟩
  · exact .inl hn
  · exact .inr ⟨g, cap, cur, rfl, Nat.le_trans hc hb, rest⟩
theorem OwnS.form (h : OwnS B w E k v ls) : ∃ a c, v = .slice a ls.length c := by
  rcases h.2 with ⟨rfl, hn⟩ | ⟨g, c, cur, rfl, _⟩
  · exact ⟨none, 0, by rw [hn]⟩
  · exact ⟨_, _, rfl⟩
theorem flatten_length (hk : ∀ x ∈ ls, x.length = k) : ls.flatten.length = ls.length * k := by
  induction ls with
  | nil => simp
  | cons x l ih =>
    rw [List.flatten_cons, List.length_append, ih (fun y hy => hk y (List.mem_cons_of_mem _ hy)), hk x (List.mem_cons_self ..), List.length_cons, Nat.succ_mul]
    omega
theorem flatten_get : ∀ {ls : List (List Value)}, (∀ x ∈ ls, x.length = k) → ∀ (i : Nat) (x : List Value) (j : Nat) (y : Value), ls[i]? = some x → x[j]? = some y → ls.flatten[i * k + j]? = some y
  | [], _, i, x, j, y, h, _ => by simp at h
  | z :: l, hk, i, x, j, y, h, hy => by
    have hz : z.length = k := hk z (List.mem_cons_self ..)
    cases i with
    | zero =>
      simp at h; subst h
      have hj : j < z.length := by
        rcases Nat.lt_or_ge j z.length with h | h
        · exact h
        · rw [List.getElem?_eq_none h] at hy; cases hy
      rw [List.flatten_cons, List.getElem?_append_left (by omega), Nat.zero_mul, Nat.zero_add]; exact hy
    | succ i =>
      rw [List.flatten_cons, List.getElem?_append_right (by rw [hz, Nat.succ_mul]; omega), hz, show (i + 1) * k + j - k = i * k + j by rw [Nat.succ_mul]; omega]
      exact flatten_get (fun y hy => hk y (List.mem_cons_of_mem _ hy)) i x j y (by simpa using h) hy
theorem OwnS.at_ (h : OwnS B w E k v ls) (hk : ∀ x ∈ ls, x.length = k) : AtS w (fun b => v.ownBlock = some b) k v ls := by
  rcases h.2 with ⟨rfl, hn⟩ | ⟨g, cap, cur, rfl, _, hg, hn, hc, hs, ht⟩
  · have : ls = [] := List.eq_nil_of_length_eq_zero hn
    subst this
    exact AtS.nil _ _ _
  · refine ⟨_, _, _, rfl, rfl, hn, hc, fun i x hx => ⟨g, 0, rfl, rfl, fun j y hy => ?_⟩⟩
    have h1 := flatten_get hk i x j y hx hy
    rw [← ht, List.getElem?_take] at h1
    split at h1
    · rw [World.cell?]
      simp [hg, Nat.zero_add]
      simpa using h1
    · cases h1
end
/-- append(v, x) of a struct that lies somewhere: a row of its own, grown by one. -/
theorem append_s {P : Program} (T E : TypeId) (z : Value) (k bytes : Nat) (hT : P.underlying T = some (.slice E)) (hinf : (P.info? E).map (fun i => (i.zero, i.size, i.bytes)) = some (some z, k, bytes)) (hzk : z.cells.size = k) (hk0 : 0 < k)
    (B : Nat) (w : World) (ty : TypeId) (v : Value) (ls : List (List Value)) (x : List Value) (u : Addr) (h : OwnS B w E k v ls) (hx : x.length = k) (hnews : ∀ j y, x[j]? = some y → w.cell? (u.add j) = some y) (h1 : ∀ y ∈ x, y.oneCell' = true) (hb : ls.length ≤ 1000000) (hby : bytes ≤ 1000000) (hB : B ≤ w.heap.size) :
    ∃ v' w', (Builtin.append_ #[T, T] ty #[v, .slice (some u) 1 1]).run P w = .ok v' w' ∧ OwnS B w' E k v' (ls ++ [x]) ∧ Keep (fun b => b < w.heap.size ∧ v.ownBlock ≠ some b) w w' ∧ ∀ b, v'.ownBlock = some b → v.ownBlock = some b ∨ w.heap.size ≤ b := by
  obtain ⟨i0, hi, hz, hs, hyb⟩ := info_parts hinf
  obtain ⟨v', w', hr, h6, h7, _, h8⟩ := run_append_own_at (P := P) w B T ty E i0 z k bytes hT hi hz hs hyb hzk hk0 v ls.length ls.flatten h u 1 1 x (by simp [hx]) hnews h1 (by unfold maxLen; omega) (by
    have : (ls.length + 1) * bytes ≤ 1000001 * 1000000 := Nat.mul_le_mul (by omega) hby
    omega) hB
  refine ⟨v', w', hr, ?_, ⟨h7.os, h7.tape, h7.output, h7.size, fun b hb => h7.block b hb.1 (fun e => hb.2 e.symm)⟩, fun b hb => ?_⟩
  · unfold OwnS
    rw [List.length_append, List.flatten_append]
    simpa using h6
  · rcases h8 with h8 | h8
    · exact .inl (h8 ▸ hb)
    · rw [hb] at h8; injection h8 with h8; exact .inr (by omega)
section
variable {B : Nat} {w : World} {E : TypeId} {k g o n c : Nat} {z : Option Nat} {ls : List (List Value)}
/-- an own row's cells, which may be written. -/
theorem OwnS.in_place (h : OwnS B w E k (.slice (some ⟨g, o, none⟩) n c) ls) (hk : ∀ x ∈ ls, x.length = k) (i j : Nat) (x : List Value) (y : Value) (hx : ls[i]? = some x) (hy : x[j]? = some y) :
    o = 0 ∧ w.cell? ⟨g, i * k + j, none⟩ = some y ∧ w.frozen? ⟨g, i * k + j, none⟩ = false := by
  have h1 := flatten_get hk i x j y hx hy
  rcases h.2 with ⟨e, _⟩ | ⟨g', cap, cur, e, _, hg, hn, hc, hs, ht⟩
  · cases e
  · cases e
    refine ⟨rfl, ?_, frozen_at hg _⟩
    rw [← ht, List.getElem?_take] at h1
    split at h1
    · rw [World.cell?]; simp [hg]; simpa using h1
    · cases h1
theorem set_flatten : ∀ {ls : List (List Value)}, (∀ x ∈ ls, x.length = k) → ∀ (i : Nat) (x : List Value) (j : Nat) (y : Value), ls[i]? = some x → j < k → ls.flatten.set (i * k + j) y = (ls.set i (x.set j y)).flatten
  | [], _, i, x, j, y, h, _ => by simp at h
  | z :: l, hk, i, x, j, y, h, hj => by
    have hz : z.length = k := hk z (List.mem_cons_self ..)
    cases i with
    | zero =>
      simp at h; subst h
      rw [List.flatten_cons, Nat.zero_mul, Nat.zero_add, List.set_append_left _ _ (by omega)]
      rfl
    | succ i =>
      rw [List.flatten_cons, List.set_append_right _ _ (by rw [hz, Nat.succ_mul]; omega), hz, show (i + 1) * k + j - k = i * k + j by rw [Nat.succ_mul]; omega, set_flatten (fun y hy => hk y (List.mem_cons_of_mem _ hy)) i x j y (by simpa using h) hj]
      rfl
theorem OwnS.set (h : OwnS B w E k (.slice (some ⟨g, o, none⟩) n c) ls) (hk : ∀ x ∈ ls, x.length = k) (i j : Nat) (x : List Value) (y : Value) (hx : ls[i]? = some x) (hj : j < k) :
    OwnS B (w.setCell ⟨g, i * k + j, none⟩ y) E k (.slice (some ⟨g, o, none⟩) n c) (ls.set i (x.set j y)) := by
  have hi : i < ls.length := by
    rcases Nat.lt_or_ge i ls.length with h | h
    · exact h
    · rw [List.getElem?_eq_none h] at hx; cases hx
  refine ⟨by rw [← set_flatten hk i x j y hx hj, List.length_set, List.length_set]; exact h.1, ?_⟩
  rcases h.2 with ⟨e, _⟩ | ⟨g', cap, cur, e, hb, hg, hn, hc, hs, ht⟩
  · cases e
  · obtain ⟨rfl, rfl, rfl⟩ : g = g' ∧ o = 0 ∧ c = cap := by injection e with e1 e2 e3; injection e1 with e1; injection e1 with e1 e4; exact ⟨e1, e4, e3⟩
    refine .inr ⟨g, c, cur.set! (i * k + j) y, by rw [List.length_set]; exact e, hb, ?_, by rw [List.length_set]; exact hn, hc, by simpa using hs, ?_⟩
    · have := set_at (cs := cur.toList) (by simpa using hg) (i * k + j) y
      rw [this, show (cur.toList.set (i * k + j) y).toArray = cur.set! (i * k + j) y from by apply Array.ext'; simp]
    · rw [List.length_set, ← set_flatten hk i x j y hx hj, ← ht]
      simp [List.take_set]
end
end Go.Proofs.Mem
