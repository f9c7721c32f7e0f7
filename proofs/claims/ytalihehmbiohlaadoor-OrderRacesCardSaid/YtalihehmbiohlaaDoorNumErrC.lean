/-
  Errors' values by their numbers; what 'stockadenum.Num' says of them.
-/
import Derived.Test.YtalihehmbiohlaaDoorNumC
namespace Go.Proofs.YtalihehmbiohlaaDoor
open Go.RowKit Go.Proofs.Mem

theorem ev_at {w : World} : ∀ {gs : List Nat} {xs : List Addr}, ErrsAt w gs xs → ∀ (n g : Nat), gs[n]? = some g → ∃ q, xs[n]? = some q ∧ w.cell? ⟨g, 0, none⟩ = some (.iface 133 (.pointer (some q))) ∧ g < w.heap.size
  | [], [], _ => fun n g h => by simp at h
  | g0 :: gs, x :: xs, h => fun n g hg => by
    cases n with
    | zero => simp at hg; subst hg; exact ⟨x, rfl, h.1.cell, h.1.lt⟩
    | succ n => simp at hg; have := ev_at h.2 n g hg; exact this
  | [], _ :: _, h => h.elim
  | _ :: _, [], h => h.elim
end Go.Proofs.YtalihehmbiohlaaDoor
