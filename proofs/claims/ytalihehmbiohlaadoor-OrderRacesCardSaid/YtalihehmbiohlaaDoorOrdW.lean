/-
  The watcher in the world: each block bears a label; what stays where labels stay.
-/
import Derived.Test.YtalihehmbiohlaaDoorOrdP
import Derived.Test.YtalihehmbiohlaaDoorMapI
namespace Go.Proofs.YtalihehmbiohlaaDoor
open Go.RowKit Go.Maps Go.Proofs.Mem Go.Proofs.Txt Go.Proofs.Ord Go.Proofs.Mp

/-- what a block is for. -/
inductive Lab where
  | old | clk | wat | mu | at_ | pi | misc
  | pp (c : Int) | sent (c : Int) | got (c : Int) | frm (c : Int)
abbrev Labs := Nat → Lab
/-- v reads as this clock; its block is a clock's. -/
def ClkAt (w : World) (lab : Labs) (v : Value) (K : Nat → Nat) : Prop := Cells w (fun b => b < w.heap.size ∧ lab b = .clk) v (ints .i64 (short K))
/-- labels stay, and so do the blocks that bear one of these. -/
structure Stay (S : Lab → Prop) (w : World) (lab : Labs) (w' : World) (lab' : Labs) : Prop where
  keep : Keep (fun b => b < w.heap.size ∧ S (lab b)) w w'
  lab : ∀ b, b < w.heap.size → lab' b = lab b
theorem Stay.refl (S : Lab → Prop) (w : World) (lab : Labs) : Stay S w lab w lab := ⟨Keep.refl _ _, fun _ _ => rfl⟩
theorem Stay.trans {S : Lab → Prop} {w w1 w2 : World} {lab lab1 lab2 : Labs} (h : Stay S w lab w1 lab1) (k : Stay S w1 lab1 w2 lab2) : Stay S w lab w2 lab2 :=
  ⟨h.keep.trans (k.keep.mono fun b hb => ⟨Nat.lt_of_lt_of_le hb.1 h.keep.size, by rw [h.lab b hb.1]; exact hb.2⟩), fun b hb => (k.lab b (Nat.lt_of_lt_of_le hb h.keep.size)).trans (h.lab b hb)⟩
theorem Stay.mono {S T : Lab → Prop} {w w' : World} {lab lab' : Labs} (h : Stay S w lab w' lab') (hT : ∀ l, T l → S l) : Stay T w lab w' lab' :=
  ⟨h.keep.mono fun b hb => ⟨hb.1, hT _ hb.2⟩, h.lab⟩
theorem Stay.of_keep {S : Lab → Prop} {w w' : World} {lab : Labs} (h : Keep (· < w.heap.size) w w') : Stay S w lab w' lab := ⟨h.mono fun _ hb => hb.1, fun _ _ => rfl⟩
theorem ClkAt.stay {S : Lab → Prop} {w w' : World} {lab lab' : Labs} {v : Value} {K : Nat → Nat} (h : ClkAt w lab v K) (k : Stay S w lab w' lab') (hS : S .clk) : ClkAt w' lab' v K :=
  (Cells.keep (q := fun b => b < w.heap.size ∧ S (lab b)) h k.keep (fun b hb => ⟨hb.1, by rw [hb.2]; exact hS⟩)).mono (fun b hb => ⟨Nat.lt_of_lt_of_le hb.1 k.keep.size, (k.lab b hb.1).trans hb.2⟩)
theorem ClkAt.zero (w : World) (lab : Labs) : ClkAt w lab (.slice none 0 0) (fun _ => 0) := by
  unfold ClkAt
  rw [short_zero]
  exact Cells.nil _ _
/-- a map of clocks. -/
def ClkMap (w : World) (lab : Labs) (M : Nat) (L : Lab) (n : Nat) (f : Int → Nat → Nat) : Prop :=
  ∃ t : Tab, IMap Tryd.prog 3 w M t ∧ lab M = L ∧ t.length ≤ n ∧ ∀ c, ClkAt w lab ((mget t c).getD (.slice none 0 0)) (f c)
theorem ClkMap.stay {S : Lab → Prop} {w w' : World} {lab lab' : Labs} {M : Nat} {L : Lab} {n : Nat} {f : Int → Nat → Nat} (h : ClkMap w lab M L n f) (k : Stay S w lab w' lab') (hS : S .clk) (hL : S L) : ClkMap w' lab' M L n f := by
  obtain ⟨t, h1, h2, h3, h4⟩ := h
  exact ⟨t, h1.keep k.keep ⟨h1.lt, by rw [h2]; exact hL⟩, (k.lab M h1.lt).trans h2, h3, fun c => (h4 c).stay k hS⟩
/-- a row of clocks, in a block of its own. -/
def ClkRow (w : World) (lab : Labs) (L : Lab) (v : Value) (l : List (Nat → Nat)) : Prop :=
  ∃ vs : List Value, Row w 32 v vs ∧ (∀ k, v.ownBlock = some k → lab k = L) ∧ vs.length = l.length ∧ ∀ (i : Nat) (x : Value) (K : Nat → Nat), vs[i]? = some x → l[i]? = some K → ClkAt w lab x K
theorem ClkRow.stay {S : Lab → Prop} {w w' : World} {lab lab' : Labs} {L : Lab} {v : Value} {l : List (Nat → Nat)} (h : ClkRow w lab L v l) (k : Stay S w lab w' lab') (hS : S .clk) (hL : S L) : ClkRow w' lab' L v l := by
  obtain ⟨vs, h1, h2, h3, h4⟩ := h
  exact ⟨vs, h1.keep k.keep (fun b hb => ⟨h1.lt hb, by rw [h2 b hb]; exact hL⟩), fun b hb => (k.lab b (h1.lt hb)).trans (h2 b hb), h3, fun i x K hx hK => (h4 i x K hx hK).stay k hS⟩
/-- a channel. -/
def PipeAt (w : World) (lab : Labs) (c : Int) (b : Nat) (p : Pipe) : Prop :=
  ∃ sv gv fv, w.heap[b]? = some (.cells #[sv, gv, fv] 86 (0, 0)) ∧ lab b = .pp c ∧ ClkRow w lab (.sent c) sv p.sent ∧ ClkRow w lab (.got c) gv p.got ∧ Row w 3 fv (ints .i64 p.frm) ∧ (∀ k, fv.ownBlock = some k → lab k = .frm c) ∧ (∀ g ∈ p.frm, g < 8)
theorem PipeAt.lt {w : World} {lab : Labs} {c : Int} {b : Nat} {p : Pipe} (h : PipeAt w lab c b p) : b < w.heap.size := by
  obtain ⟨_, _, _, h1, _⟩ := h
  exact (Array.getElem?_eq_some_iff.1 h1).1
theorem PipeAt.stay {S : Lab → Prop} {w w' : World} {lab lab' : Labs} {c : Int} {b : Nat} {p : Pipe} (h : PipeAt w lab c b p) (k : Stay S w lab w' lab') (h0 : S .clk) (h1 : S (.pp c)) (h2 : S (.sent c)) (h3 : S (.got c)) (h4 : S (.frm c)) : PipeAt w' lab' c b p := by
  have hb := h.lt
  obtain ⟨sv, gv, fv, g1, g2, g3, g4, g5, g6, g7⟩ := h
  exact ⟨sv, gv, fv, (k.keep.block b ⟨hb, by rw [g2]; exact h1⟩).trans g1, (k.lab b hb).trans g2, g3.stay k h0 h2, g4.stay k h0 h3, g5.keep k.keep (fun j hj => ⟨g5.lt hj, by rw [g6 j hj]; exact h4⟩), fun j hj => (k.lab j (g5.lt hj)).trans (g6 j hj), g7⟩
/-- the channels. -/
def PipesAt (w : World) (lab : Labs) (M n : Nat) (f : Int → Option Pipe) (pb : Int → Nat) : Prop :=
  ∃ t : Tab, IMap Tryd.prog 3 w M t ∧ lab M = .pi ∧ t.length ≤ n ∧ ∀ c, (f c = none ∧ mget t c = none) ∨ (∃ p, f c = some p ∧ mget t c = some (.pointer (some ⟨pb c, 0, none⟩)) ∧ PipeAt w lab c (pb c) p)
theorem PipesAt.stay {S : Lab → Prop} {w w' : World} {lab lab' : Labs} {M n : Nat} {f : Int → Option Pipe} {pb : Int → Nat} (h : PipesAt w lab M n f pb) (k : Stay S w lab w' lab') (h0 : S .clk) (h1 : ∀ c, S (.pp c)) (h2 : ∀ c, S (.sent c)) (h3 : ∀ c, S (.got c)) (h4 : ∀ c, S (.frm c)) (h5 : S .pi) : PipesAt w' lab' M n f pb := by
  obtain ⟨t, g1, g2, g3, g4⟩ := h
  refine ⟨t, g1.keep k.keep ⟨g1.lt, by rw [g2]; exact h5⟩, (k.lab M g1.lt).trans g2, g3, fun c => ?_⟩
  rcases g4 c with h | ⟨p, e1, e2, e3⟩
  · exact .inl h
  · exact .inr ⟨p, e1, e2, e3.stay k h0 (h1 c) (h2 c) (h3 c) (h4 c)⟩
/-- the watcher's own block: rooms, what each goroutine has seen, the maps. -/
def OwnAt (w : World) (lab : Labs) (W : Nat) (rv : Value) (M1 M2 M3 : Nat) (own : Nat → Nat → Nat) : Prop :=
  ∃ ov : List Value, ov.length = 8 ∧ w.heap[W]? = some (.cells ([rv] ++ ov ++ [Value.map (some M1), Value.map (some M2), Value.map (some M3)] : List Value).toArray 74 (0, 0)) ∧ lab W = .wat ∧ ∀ (g : Nat) (x : Value), ov[g]? = some x → ClkAt w lab x (own g)
theorem OwnAt.lt {w : World} {lab : Labs} {W M1 M2 M3 : Nat} {rv : Value} {own : Nat → Nat → Nat} (h : OwnAt w lab W rv M1 M2 M3 own) : W < w.heap.size := by
  obtain ⟨_, _, h1, _⟩ := h
  exact (Array.getElem?_eq_some_iff.1 h1).1
theorem OwnAt.stay {S : Lab → Prop} {w w' : World} {lab lab' : Labs} {W M1 M2 M3 : Nat} {rv : Value} {own : Nat → Nat → Nat} (h : OwnAt w lab W rv M1 M2 M3 own) (k : Stay S w lab w' lab') (h0 : S .clk) (h1 : S .wat) : OwnAt w' lab' W rv M1 M2 M3 own := by
  have hW := h.lt
  obtain ⟨ov, g1, g2, g3, g4⟩ := h
  exact ⟨ov, g1, (k.keep.block W ⟨hW, by rw [g3]; exact h1⟩).trans g2, (k.lab W hW).trans g3, fun g x hx => (g4 g x hx).stay k h0⟩
/-- the watcher: B is where the call's own blocks begin; n bounds the maps. -/
structure Watch (B : Nat) (W : Nat) (rv : Value) (M1 M2 M3 n : Nat) (pb : Int → Nat) (w : World) (lab : Labs) (s : St) : Prop where
  old : ∀ b, b < B → lab b = .old
  size : B ≤ w.heap.size
  own : OwnAt w lab W rv M1 M2 M3 s.own
  mut_ : ClkMap w lab M1 .mu n s.mut_
  atm : ClkMap w lab M2 .at_ n s.atm
  pipe : PipesAt w lab M3 n s.pipe pb
/-- a block gets its label. -/
def rel (lab : Labs) (b : Nat) (l : Lab) : Labs := fun k => if k = b then l else lab k
theorem rel_same (lab : Labs) (b : Nat) (l : Lab) : rel lab b l b = l := if_pos rfl
theorem rel_other (lab : Labs) {b k : Nat} (l : Lab) (h : k ≠ b) : rel lab b l k = lab k := if_neg h
theorem Stay.fresh (S : Lab → Prop) {w w' : World} (lab : Labs) (l : Lab) (h : Keep (· < w.heap.size) w w') : Stay S w lab w' (rel lab w.heap.size l) :=
  ⟨h.mono fun _ hb => hb.1, fun _ hb => rel_other lab l (by omega)⟩
theorem Watch.stay {S : Lab → Prop} {B W : Nat} {rv : Value} {M1 M2 M3 n : Nat} {pb : Int → Nat} {w w' : World} {lab lab' : Labs} {s : St} (h : Watch B W rv M1 M2 M3 n pb w lab s) (k : Stay S w lab w' lab') (hS : ∀ l, l ≠ .misc → S l) : Watch B W rv M1 M2 M3 n pb w' lab' s :=
  ⟨fun b hb => (k.lab b (Nat.lt_of_lt_of_le hb h.size)).trans (h.old b hb), Nat.le_trans h.size k.keep.size, h.own.stay k (hS _ (by simp)) (hS _ (by simp)), h.mut_.stay k (hS _ (by simp)) (hS _ (by simp)), h.atm.stay k (hS _ (by simp)) (hS _ (by simp)),
    h.pipe.stay k (hS _ (by simp)) (fun _ => hS _ (by simp)) (fun _ => hS _ (by simp)) (fun _ => hS _ (by simp)) (fun _ => hS _ (by simp)) (hS _ (by simp))⟩
end Go.Proofs.YtalihehmbiohlaaDoor
