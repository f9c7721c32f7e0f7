/-
  The watcher, plainly: how long its rows are; a clock hangs on what is ahead of it alone. No program in sight.
-/
import Derived.Test.YtalihehmbiohlaaDoorOrdP
namespace Go.Proofs.Ord

theorem pp_step (rooms : List Int) (s : St) (e : Ev) (c : Int) :
    ((s.step rooms e).pp c).sent.length ≤ (s.pp c).sent.length + 1 ∧ ((s.step rooms e).pp c).got.length ≤ (s.pp c).got.length + 1 ∧ ((s.step rooms e).pp c).frm.length ≤ (s.pp c).frm.length + 1 := by
  unfold St.step
  simp only []
  have h0 : ∀ s' : St, s'.pipe = s.pipe → (s'.pp c).sent.length ≤ (s.pp c).sent.length + 1 ∧ (s'.pp c).got.length ≤ (s.pp c).got.length + 1 ∧ (s'.pp c).frm.length ≤ (s.pp c).frm.length + 1 := by
    intro s' h
    have : s'.pp c = s.pp c := by unfold St.pp; rw [h]
    rw [this]; omega
  split
  · exact h0 _ rfl
  · split
    · exact h0 _ rfl
    · split
      · exact h0 _ rfl
      · split
        · by_cases hc : c = e.obj
          · subst hc; simp [St.pp, updI]
          · have : St.pp { s with own := upd s.own e.g.toNat (s.clock rooms e), pipe := updI s.pipe e.obj (some ⟨(s.pp e.obj).sent ++ [s.clock rooms e], (s.pp e.obj).got, (s.pp e.obj).frm ++ [e.g.toNat]⟩) } c = s.pp c := by simp [St.pp, updI, hc]
            rw [this]; omega
        · split
          · by_cases hc : c = e.obj
            · subst hc; simp [St.pp, updI]
            · simp [St.pp, updI, hc]
          · exact h0 _ rfl
theorem run_lens (rooms : List Int) (l : List Ev) (c : Int) (i : Nat) (hi : i ≤ l.length) : ((St.run rooms (l.take i)).pp c).sent.length ≤ i ∧ ((St.run rooms (l.take i)).pp c).got.length ≤ i ∧ ((St.run rooms (l.take i)).pp c).frm.length ≤ i := by
  induction i with
  | zero => exact ⟨Nat.le_refl _, Nat.le_refl _, Nat.le_refl _⟩
  | succ i ih =>
    have h1 := ih (by omega)
    rw [run_take rooms l i (by omega)]
    have h2 := pp_step rooms (St.run rooms (l.take i)) l[i] c
    omega
theorem clockAt_at (rooms : List Int) (l : List Ev) (i : Nat) (h : i < l.length) : clockAt rooms l i = (St.run rooms (l.take i)).clock rooms l[i] := by
  unfold clockAt
  rw [List.getElem?_eq_getElem h]
theorem clockAt_le (rooms : List Int) (l : List Ev) (i : Nat) (h : i < l.length) (g : Nat) : clockAt rooms l i g ≤ i + 1 := by
  rw [clockAt_at rooms l i h]
  exact clock_le (run_le rooms l i (by omega)) rooms _ g
theorem clockAt_take (rooms : List Int) (l : List Ev) (n i : Nat) (hi : i < n) (hn : n ≤ l.length) : clockAt rooms (l.take n) i = clockAt rooms l i := by
  rw [clockAt_at rooms (l.take n) i (by rw [List.length_take]; omega), clockAt_at rooms l i (by omega), List.take_take, Nat.min_eq_left (Nat.le_of_lt hi), List.getElem_take]
end Go.Proofs.Ord
