/-
  More on a region walked in the order of its text: operations behind a guard that holds. No program in sight.
-/
import Derived.Test.YtjknjjcdgniodaaDoorTxt
namespace Go.Proofs.Txt
open Go
section
variable {P : Program} {ops : Array Oper} {S : World → Prop} {Q : Exit → Act → World → Prop}

theorem text_free_g {o : Oper} {l : List Oper} {m : List Bool} {a : Act} {w : World} (hg : Region.wanted o (yielded ops a.tmps) = true)
    (h : ∀ K : Act → Prop, (∀ a', text P ops S Q l m a' w → K a') → ∃ v, (∀ w, (execOp a.eval o).run P w = .ok (.value v) w) ∧ K (a.put o.dst v)) : text P ops S Q (o :: l) (true :: m) a w := by
  obtain ⟨v, hy, hk⟩ := h _ (fun _ h => h)
  exact ⟨v, .inl ⟨hg, fun w _ => hy w⟩, hk⟩
theorem text_held_g {o : Oper} {l : List Oper} {m : List Bool} {a : Act} {w : World} (v : Value) (hg : Region.wanted o (yielded ops a.tmps) = true) (hy : ∀ w, S w → (execOp a.eval o).run P w = .ok (.value v) w)
    (h : ∀ K : Act → Prop, (∀ a', text P ops S Q l m a' w → K a') → K (a.put o.dst v)) : text P ops S Q (o :: l) (true :: m) a w :=
  ⟨v, .inl ⟨hg, hy⟩, h _ (fun _ h => h)⟩
theorem text_chain_g {o : Oper} {l : List Oper} {m : List Bool} {a : Act} {w : World} (hg : Region.wanted o (yielded ops a.tmps) = true) (h : ∀ K : Act → World → Prop, (∀ a' w', S w' ∧ text P ops S Q l m a' w' → K a' w') → o.wp P a w K NoWay) : text P ops S Q (o :: l) (false :: m) a w := by
  unfold text
  rw [if_pos hg]
  exact h _ (fun _ _ h => ⟨.inr h.1, h.2⟩)
theorem text_app_g {o : Oper} {l : List Oper} {m : List Bool} {a : Act} {w : World} (hg : Region.wanted o (yielded ops a.tmps) = true) (s x : Operand) (T T' : TypeId)
    (ho : o.op = .call { callee := .builtin .append, args := #[s, x], argTypes := #[T, T'] }) (R : Value → World → Prop)
    (hr : ∃ v' w', (Builtin.append_ #[T, T'] o.type #[a.eval s, a.eval x]).run P w = .ok v' w' ∧ R v' w') (h : ∀ v' w', R v' w' → S w' ∧ text P ops S Q l m (a.put o.dst v') w') : text P ops S Q (o :: l) (false :: m) a w := by
  obtain ⟨v', w', hr, hR⟩ := hr
  refine text_chain_g hg fun K hK => ?_
  unfold Oper.wp execOp
  simp only [ho, resolve, invoke, builtin, Sem.run_bind, Sem.run_pure, Result.andThen_ok, List.map_toArray, List.map_cons, List.map_nil, hr]
  exact hK _ _ (h v' w' hR)
end
end Go.Proofs.Txt
