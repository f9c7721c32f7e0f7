/-
  More on worlds and blocks: a struct or an array made out of its parts. No program in sight.
-/
import Derived.Test.YtnpneippahdigaaDoorMem5
import Derived.Laws.Tables
import Derived.Deep.MidRow
namespace Go.Proofs.Mem
open Go.RowKit

/-- cells laid over other cells from a place on. -/
def lay (cs : List Value) (off : Nat) (xs : List Value) : List Value := cs.take off ++ (xs ++ cs.drop (off + xs.length))
theorem lay_mid (pre old post new : List Value) (off : Nat) (ho : off = pre.length) (h : old.length = new.length) : lay (pre ++ (old ++ post)) off new = pre ++ (new ++ post) := by
  subst ho
  unfold lay
  rw [List.take_append_of_le_length (Nat.le_refl _), List.take_length, List.drop_append, List.drop_of_length_le (by omega), ← h, Nat.add_sub_cancel_left, List.nil_append, List.drop_append_of_le_length (Nat.le_refl _), List.drop_length, List.nil_append]
theorem lay_length (cs : List Value) (off : Nat) (xs : List Value) (h : off + xs.length ≤ cs.length) : (lay cs off xs).length = cs.length := by
  unfold lay; simp only [List.length_append, List.length_take, List.length_drop]; omega

theorem foldl_lay (xs : List Value) : ∀ (j off : Nat) (cs : Array Value), off + j + xs.length ≤ cs.size →
    (xs.zipIdx j).foldl (fun cs x => cs.setIfInBounds (off + x.2) x.1) cs = (lay cs.toList (off + j) xs).toArray := by
  induction xs with
  | nil => intro j off cs _; simp [lay]
  | cons x xs ih =>
    intro j off cs h
    simp only [List.length_cons] at h
    rw [List.zipIdx_cons, List.foldl_cons, ih (j + 1) off _ (by simp; omega)]
    congr 1
    unfold lay
    simp only [Array.toList_setIfInBounds, List.length_cons]
    have hl : off + j < cs.toList.length := by simp; omega
    have A : (cs.toList.set (off + j) x).take (off + (j + 1)) = cs.toList.take (off + j) ++ [x] := by
      rw [List.set_eq_take_append_cons_drop, if_pos hl, List.take_append, List.take_of_length_le (by rw [List.length_take]; omega), List.length_take, Nat.min_eq_left (Nat.le_of_lt hl), show off + (j + 1) - (off + j) = 1 by omega]
      rfl
    have B : (cs.toList.set (off + j) x).drop (off + (j + 1) + xs.length) = cs.toList.drop (off + j + (xs.length + 1)) := by
      rw [List.drop_set_of_lt (by omega)]; congr 1; omega
    rw [A, B, List.append_assoc]
    rfl

theorem fill_cons {place : Nat → Option (Nat × Nat)} {cells : List Value} {i off size : Nat} {v : Value} {xs : List Value} {rest : List (Nat × Value)} (hp : place i = some (off, size)) (hv : v.cells = xs.toArray) (hs : xs.length = size) (hle : off + size ≤ cells.length) :
    Instr.fill place cells.toArray ((i, v) :: rest) = Instr.fill place (lay cells off xs).toArray rest := by
  simp only [Instr.fill, hp, hv, List.size_toArray, hs]
  rw [if_neg (by simp; omega)]
  congr 1
  have := foldl_lay xs 0 off cells.toArray (by simp; omega)
  simp only [Nat.add_zero] at this
  rw [← this]
  have e : xs.toArray.zipIdx = (xs.zipIdx).toArray := by apply Array.ext'; simp
  rw [e]
  simp
theorem fill_nil {place : Nat → Option (Nat × Nat)} {cells : List Value} : Instr.fill place cells.toArray [] = some cells.toArray := rfl

/-- a struct type's zero cells, and where its fields lie. -/
def structLay (P : Program) (t : TypeId) : Option (List Value × List (Nat × Nat)) :=
  match P.info? t, P.underlying t with
  | some it, some (.struct fields) =>
    match it.zero, fields.toList.mapM (fun f => (P.info? f.type).map fun i => (f.offset, i.size)) with
    | some z, some places => some (z.cells.toList, places)
    | _, _ => none
  | _, _ => none
theorem built_struct {P : Program} {t : TypeId} {zc : List Value} {places : List (Nat × Nat)} (h : structLay P t = some (zc, places)) (parts : List (Nat × Value)) : P.built t parts = Instr.fill (places.toArray[·]?) zc.toArray parts := by
  unfold structLay at h
  unfold Program.built
  cases hit : P.info? t with
  | none => simp [hit] at h
  | some it =>
    cases hu : P.underlying t with
    | none => simp [hit, hu] at h
    | some d =>
      cases d <;> try (simp [hit, hu] at h; done)
      case struct fields =>
        cases hz : it.zero with
        | none => simp [hit, hu, hz] at h
        | some z =>
          cases hp : fields.toList.mapM (fun f => (P.info? f.type).map fun i => (f.offset, i.size)) with
          | none => simp [hit, hu, hz, hp] at h
          | some pl =>
            simp only [hit, hu, hz, hp, Option.some.injEq, Prod.mk.injEq] at h
            obtain ⟨rfl, rfl⟩ := h
            simp [hz, hp]
/-- a build that the walk has come to, its run told. -/
theorem wpList_bld {P : Program} {ops : Array Oper} {rest : List Oper} {o : Oper} {a : Act} {w : World} {Q : Exit → Act → World → Prop} (hgd : o.guard = none) (t : TypeId) (l : List (Nat × Operand)) (ho : o.op = .build t l.toArray) (v : Value)
    (hr : (Instr.build t (l.map fun x => (x.1, a.eval x.2)).toArray).run P w = .ok v w) (h : wpList P ops Q rest (a.put o.dst v) w) : wpList P ops Q (o :: rest) a w := by
  refine wpList_plain hgd fun K hK => ?_
  unfold Oper.wp execOp
  simp only [ho, Sem.run_bind, List.map_toArray]
  have e : (l.map fun (x : Nat × Operand) => match x with | (i, y) => (i, a.eval y)) = l.map fun x => (x.1, a.eval x.2) := rfl
  rw [show ((fun (x : Nat × Operand) => match x with | (i, y) => (i, a.eval y)) : Nat × Operand → Nat × Value) = fun x => (x.1, a.eval x.2) from rfl, hr]
  exact hK _ _ h
/-- a part of a block that is known whole, stored. -/
theorem lay_cons (cs : List Value) (o : Nat) (v : Value) (vs : List Value) (h : o < cs.length) : lay (cs.set o v) (o + 1) vs = lay cs o (v :: vs) := by
  unfold lay
  have A : (cs.set o v).take (o + 1) = cs.take o ++ [v] := by
    rw [List.set_eq_take_append_cons_drop, if_pos h, List.take_append, List.take_of_length_le (by rw [List.length_take]; omega), List.length_take, Nat.min_eq_left (Nat.le_of_lt h), Nat.add_sub_cancel_left]
    rfl
  have B : (cs.set o v).drop (o + 1 + vs.length) = cs.drop (o + (v :: vs).length) := by
    rw [List.drop_set_of_lt (by omega), List.length_cons]; congr 1; omega
  rw [A, B, List.append_assoc]
  rfl
theorem heap_setCells {b : Nat} {T : TypeId} {fr : Nat × Nat} (vs : List Value) : ∀ (o : Nat) (w : World) (cur : List Value), w.heap[b]? = some (.cells cur.toArray T fr) → o + vs.length ≤ cur.length → (w.setCells b o vs).heap[b]? = some (.cells (lay cur o vs).toArray T fr) := by
  induction vs with
  | nil => intro o w cur h _; simp [World.setCells, lay, h]
  | cons v vs ih =>
    intro o w cur h hl
    simp only [List.length_cons] at hl
    rw [World.setCells, ih (o + 1) _ (cur.set o v) (set_at h o v) (by rw [List.length_set]; omega), lay_cons _ _ _ _ (by omega)]
theorem Keep.setCells {p : Nat → Prop} {a : World} {b : Nat} (vs : List Value) : ∀ (o : Nat) (w : World), Keep p a w → ¬ p b → Keep p a (w.setCells b o vs) := by
  induction vs with
  | nil => intro o w h _; exact h
  | cons v vs ih => intro o w h hp; exact ih (o + 1) _ (h.setCell v hp) hp
theorem there_of {w : World} {b o n : Nat} {cur : List Value} {T : TypeId} (h : w.heap[b]? = some (.cells cur.toArray T (0, 0))) (hn : o + n ≤ cur.length) : w.there b o n := by
  intro j hj
  refine ⟨?_, frozen_at h _⟩
  rw [cell_at h, List.getElem?_eq_getElem (by omega)]
  rfl
end Go.Proofs.Mem
