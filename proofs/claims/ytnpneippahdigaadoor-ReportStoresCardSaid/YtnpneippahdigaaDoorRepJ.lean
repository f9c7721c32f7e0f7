/-
  A row of races grown by one.
-/
import Derived.Test.YtnpneippahdigaaDoorRepB
import Derived.Laws.AppendOwn
import Derived.RangeFuncFrom
namespace Go.Proofs.YtnpneippahdigaaDoor
open Go.RowKit Go.Proofs.Mem Go.Proofs.Txt

def raceZero : Value := .agg #[.int .i64 0, .int .i64 0, .int .i64 0, .bool false, .bool false]
theorem race_info : (Tryd.prog.info? 114).map (fun i => (i.zero, i.size, i.bytes)) = some (some raceZero, 5, 32) := by kernel_rfl
/-- a row of races of its own. -/
def OwnRaces (B : Nat) (w : World) (v : Value) (l : List Rp.Race) : Prop := w.ownsRow B 114 5 v l.length (l.flatMap rcC)
theorem OwnRaces.nil (B : Nat) (w : World) : OwnRaces B w (.slice none 0 0) [] := World.ownsRow_nil w B _ 5
theorem OwnRaces.lt {B : Nat} {w : World} {v : Value} {l : List Rp.Race} (h : OwnRaces B w v l) {k : Nat} (hk : v.ownBlock = some k) : B ≤ k ∧ k < w.heap.size := World.ownsRow.lt h k hk
/-- it stays where neither its block nor a younger one is turned. -/
theorem OwnRaces.grown {B : Nat} {w w' : World} {v : Value} {l : List Rp.Race} {row : Option Nat} (h : OwnRaces B w v l) (hg : w.grownBy w' row) (hne : ∀ k, v.ownBlock = some k → row ≠ some k) : OwnRaces B w' v l := by
  refine World.ownsRow.kept h hg ?_
  rcases h.2 with ⟨rfl, _⟩ | ⟨g, cap, cur, rfl, _⟩
  · exact .inl rfl
  · exact .inr (fun e => hne g rfl e.symm)
theorem OwnRaces.isCells {B : Nat} {w : World} {v : Value} {l : List Rp.Race} (h : OwnRaces B w v l) {k : Nat} (hk : v.ownBlock = some k) {o : Obj} (ho : w.heap[k]? = some o) : o.isCells = true := by
  rcases h.2 with ⟨rfl, _⟩ | ⟨g, cap, cur, rfl, _, hg, _⟩
  · cases hk
  · obtain rfl : g = k := by simpa [Value.ownBlock] using hk
    rw [hg] at ho; cases ho; rfl
theorem races_cells_length (l : List Rp.Race) : (l.flatMap rcC).length = l.length * 5 := by
  induction l with
  | nil => rfl
  | cons x l ih => rw [List.flatMap_cons, List.length_append, ih]; simp [rcC]; omega
theorem races_cells_get (l : List Rp.Race) : ∀ (i : Nat) (x : Rp.Race) (j : Nat) (v : Value), l[i]? = some x → (rcC x)[j]? = some v → (l.flatMap rcC)[i * 5 + j]? = some v := by
  induction l with
  | nil => intro i x j v h; simp at h
  | cons y l ih =>
    intro i x j v h hv
    have hj : j < 5 := by
      rcases Nat.lt_or_ge j 5 with h | h
      · exact h
      · rw [List.getElem?_eq_none (by simpa [rcC] using h)] at hv; cases hv
    have hl : (rcC y).length = 5 := by simp [rcC]
    cases i with
    | zero =>
      simp at h; subst h
      rw [List.flatMap_cons, List.getElem?_append_left (by omega), Nat.zero_mul, Nat.zero_add]; exact hv
    | succ i =>
      rw [List.flatMap_cons, List.getElem?_append_right (by omega), hl, show (i + 1) * 5 + j - 5 = i * 5 + j by omega]
      exact ih i x j v (by simpa using h) hv
theorem OwnRaces.at_ {B : Nat} {w : World} {v : Value} {l : List Rp.Race} (h : OwnRaces B w v l) : RacesAt w (fun b => v.ownBlock = some b) v l := by
  rcases h.2 with ⟨rfl, hn⟩ | ⟨g, cap, cur, rfl, _, hg, hn, hc, hs, ht⟩
  · have : l = [] := List.eq_nil_of_length_eq_zero hn
    subst this
    exact RacesAt.nil _ _
  · refine ⟨_, _, _, rfl, rfl, hn, hc, fun i x hx => ⟨g, 0, rfl, rfl, fun j y hy => ?_⟩⟩
    have h1 := races_cells_get l i x j y hx hy
    rw [← ht, List.getElem?_take] at h1
    split at h1
    · rw [World.cell?]
      simp [hg, Nat.zero_add]
      simpa using h1
    · cases h1
theorem race_append (B : Nat) (w : World) (ty : TypeId) (v : Value) (l : List Rp.Race) (x : Rp.Race) (u : Addr) (h : OwnRaces B w v l) (hnews : ∀ j y, (rcC x)[j]? = some y → w.cell? (u.add j) = some y) (hb : l.length ≤ 1000000) (hB : B ≤ w.heap.size) :
    ∃ v' w', (Builtin.append_ #[24, 24] ty #[v, .slice (some u) 1 1]).run Tryd.prog w = .ok v' w' ∧ OwnRaces B w' v' (l ++ [x]) ∧ w.grownBy w' v.ownBlock := by
  obtain ⟨i0, hi, hz, hs, hy⟩ := info_parts race_info
  obtain ⟨v', w', hr, ho, hg, _⟩ := run_append_own (P := Tryd.prog) w B 24 ty 114 i0 raceZero 5 32 Tryd.underlying24 hi hz hs hy rfl (by decide) v l.length (l.flatMap rcC) h u 1 1 (rcC x) (by simp [rcC]) hnews (fun y hy => by
      have := rc_one x
      simp only [List.all_toArray, List.all_eq_true] at this
      exact this y hy) (by unfold maxLen; omega) (by omega) hB
  refine ⟨v', w', hr, ?_, hg⟩
  unfold OwnRaces
  rw [List.length_append, List.flatMap_append]
  simpa using ho
end Go.Proofs.YtnpneippahdigaaDoor
