/-
  Accesses between locks, plainly: what holds while a trace keeps to the lock. No program in sight.
-/
import Derived.Test.YtalihehmbiohlaaDoorOrdT
import Derived.Test.YtalihehmbiohlaaDoorOrdN
namespace Go.Proofs.Ord

/-- who holds the mutex behind the event (-1: nobody); does a trace keep to the lock? -/
def holdN (h : Int) (e : Ev) : Int := if e.kd = 3 then e.g else if e.kd = 4 then -1 else h
/-- an event that may stand where h holds the mutex m. -/
def mayBe (m h : Int) (e : Ev) : Bool := decide (0 ≤ e.g) && decide (e.g < 8) && ((decide (e.kd = 1 ∨ e.kd = 2) && decide (h = e.g)) || (decide (e.kd = 3) && decide (e.obj = m) && decide (h < 0)) || (decide (e.kd = 4) && decide (e.obj = m) && decide (h = e.g)))
/-- the holder behind so many events. -/
def holdAt (l : List Ev) (i : Nat) : Int := (l.take i).foldl holdN (-1)
theorem holdAt_succ (l : List Ev) (i : Nat) (h : i < l.length) : holdAt l (i + 1) = holdN (holdAt l i) l[i] := by
  unfold holdAt
  rw [List.take_succ_eq_append_getElem h, List.foldl_append]
  rfl
/-- the trace keeps to the lock. -/
def Locked (m : Int) (l : List Ev) : Prop := ∀ i (h : i < l.length), mayBe m (holdAt l i) l[i] = true
theorem step_plain (rooms : List Int) (s : St) (e : Ev) (h : e.kd = 1 ∨ e.kd = 2 ∨ e.kd = 3) : (s.step rooms e).own = upd s.own e.g.toNat (s.clock rooms e) ∧ (s.step rooms e).mut_ = s.mut_ := by
  obtain ⟨g, kd, obj, at_⟩ := e
  simp only at h
  rcases h with rfl | rfl | rfl <;> exact ⟨rfl, rfl⟩
theorem step_un (rooms : List Int) (s : St) (e : Ev) (h : e.kd = 4) : (s.step rooms e).own = upd s.own e.g.toNat (s.clock rooms e) ∧ (s.step rooms e).mut_ = updI s.mut_ e.obj (join (s.mut_ e.obj) (s.clock rooms e)) := by
  obtain ⟨g, kd, obj, at_⟩ := e
  simp only at h
  subst h
  exact ⟨rfl, rfl⟩
theorem seen_lk (rooms : List Int) (s : St) (e : Ev) (h : e.kd = 3) (x : Nat) : s.mut_ e.obj x ≤ s.seen rooms e x := by
  obtain ⟨g, kd, obj, at_⟩ := e
  simp only at h
  subst h
  exact Nat.le_max_right _ _
/-- what the lock keeps. -/
structure LockIn (rooms : List Int) (m : Int) (l : List Ev) (i : Nat) : Prop where
  free : ∀ k, k < i → (evAt l k).acc = true → holdAt l i ≠ (evAt l k).g → ownN rooms l k ≤ (St.run rooms (l.take i)).mut_ m (evAt l k).g.toNat
  held : ∀ k, k < i → (evAt l k).acc = true → 0 ≤ holdAt l i → ownN rooms l k ≤ (St.run rooms (l.take i)).own (holdAt l i).toNat (evAt l k).g.toNat
theorem lock_in (rooms : List Int) (m : Int) (l : List Ev) (hl : Locked m l) (i : Nat) (hi : i ≤ l.length) : LockIn rooms m l i := by
  induction i with
  | zero => exact ⟨fun k hk => by omega, fun k hk => by omega⟩
  | succ i ih =>
    have h := ih (by omega)
    have hm := hl i (by omega)
    have hcl := clockAt_at rooms l i (by omega)
    have he := evAt_get l i (by omega)
    obtain ⟨e, hee⟩ : ∃ e, l[i] = e := ⟨_, rfl⟩
    rw [hee] at hm hcl he
    obtain ⟨s, hs⟩ : ∃ s, St.run rooms (l.take i) = s := ⟨_, rfl⟩
    obtain ⟨H, hH⟩ : ∃ H, holdAt l i = H := ⟨_, rfl⟩
    have hr : St.run rooms (l.take (i + 1)) = s.step rooms e := by rw [run_take rooms l i (by omega), hs, hee]
    have hh : holdAt l (i + 1) = holdN H e := by rw [holdAt_succ l i (by omega), hH, hee]
    have f := h.free
    have g := h.held
    rw [hs, hH] at f g
    rw [hs] at hcl
    rw [hH] at hm
    have hC : ∀ x, s.seen rooms e x ≤ s.clock rooms e x := clock_ge rooms s e
    have hO : ∀ x, s.own e.g.toNat x ≤ s.seen rooms e x := seen_ge rooms s e
    simp only [mayBe, Bool.and_eq_true, Bool.or_eq_true, decide_eq_true_eq] at hm
    obtain ⟨⟨g0, g8⟩, hm⟩ := hm
    have hN : ∀ k, k < i + 1 → k ≠ i → k < i := fun k h1 h2 => by omega
    have hself : ownN rooms l i = s.clock rooms e e.g.toNat := by unfold ownN; rw [hcl, he]
    rcases hm with (⟨hk, hg⟩ | ⟨⟨hk, ho⟩, hg⟩) | ⟨⟨hk, ho⟩, hg⟩
    · -- an access by the holder
      have h3 : holdN H e = H := by unfold holdN; rw [if_neg (by omega), if_neg (by omega)]
      obtain ⟨s1, s2⟩ := step_plain rooms s e (by omega)
      refine ⟨fun k hk1 ha hne => ?_, fun k hk1 ha hp => ?_⟩
      · rw [hh, h3] at hne
        rw [hr, s2]
        by_cases e2 : k = i
        · subst e2; rw [he] at hne; exact absurd hg hne
        · exact f k (hN k hk1 e2) ha hne
      · rw [hh, h3] at hp ⊢
        rw [hr, s1, hg]
        unfold upd
        rw [if_pos rfl]
        by_cases e2 : k = i
        · subst e2; rw [hself, he]; exact Nat.le_refl _
        · have := g k (hN k hk1 e2) ha hp
          rw [hg] at this
          exact Nat.le_trans this (Nat.le_trans (hO _) (hC _))
    · -- a lock
      have h3 : holdN H e = e.g := by unfold holdN; rw [if_pos hk]
      obtain ⟨s1, s2⟩ := step_plain rooms s e (by omega)
      have hna : e.acc = false := by simp [Ev.acc, hk]
      refine ⟨fun k hk1 ha hne => ?_, fun k hk1 ha hp => ?_⟩
      · have e2 : k ≠ i := fun e2 => by subst e2; rw [he, hna] at ha; cases ha
        rw [hr, s2]
        have hgk : 0 ≤ (evAt l k).g := by
          have := hl k (by omega)
          simp only [mayBe, Bool.and_eq_true, decide_eq_true_eq] at this
          rw [evAt_get l k (by omega)]
          exact this.1.1
        exact f k (hN k hk1 e2) ha (by omega)
      · have e2 : k ≠ i := fun e2 => by subst e2; rw [he, hna] at ha; cases ha
        have hgk : 0 ≤ (evAt l k).g := by
          have := hl k (by omega)
          simp only [mayBe, Bool.and_eq_true, decide_eq_true_eq] at this
          rw [evAt_get l k (by omega)]
          exact this.1.1
        have := f k (hN k hk1 e2) ha (by omega)
        rw [hh, h3, hr, s1]
        unfold upd
        rw [if_pos rfl]
        have h5 := seen_lk rooms s e hk (evAt l k).g.toNat
        rw [ho] at h5
        exact Nat.le_trans this (Nat.le_trans h5 (hC _))
    · -- an unlock by the holder
      have h3 : holdN H e = -1 := by unfold holdN; rw [if_neg (by omega), if_pos hk]
      obtain ⟨s1, s2⟩ := step_un rooms s e hk
      have hna : e.acc = false := by simp [Ev.acc, hk]
      refine ⟨fun k hk1 ha hne => ?_, fun k hk1 ha hp => ?_⟩
      · have e2 : k ≠ i := fun e2 => by subst e2; rw [he, hna] at ha; cases ha
        rw [hr, s2]
        unfold updI
        rw [if_pos ho.symm, ho]
        by_cases hgh : H = (evAt l k).g
        · have := g k (hN k hk1 e2) ha (by omega)
          rw [hg] at this
          exact Nat.le_trans (Nat.le_trans this (Nat.le_trans (hO _) (hC _))) (Nat.le_max_right _ _)
        · exact Nat.le_trans (f k (hN k hk1 e2) ha hgh) (Nat.le_max_left _ _)
      · rw [hh, h3] at hp
        omega
/-- accesses between locks don't race. -/
theorem races_locks (rooms : List Int) (m : Int) (l : List Ev) (hl : Locked m l) : racesP rooms l = [] := by
  refine found_nil rooms l _ fun i hi ha => cand_nil rooms l i fun k hk hka _ => ?_
  have h := lock_in rooms m l hl i (by omega)
  have hm := hl i hi
  simp only [mayBe, Bool.and_eq_true, Bool.or_eq_true, decide_eq_true_eq] at hm
  obtain ⟨⟨g0, g8⟩, hm⟩ := hm
  have hacc : l[i].kd = 1 ∨ l[i].kd = 2 := by rw [evAt_get l i hi] at ha; simpa [Ev.acc] using ha
  have hh : holdAt l i = l[i].g := by
    rcases hm with (⟨_, h5⟩ | ⟨⟨h5, _⟩, _⟩) | ⟨⟨h5, _⟩, _⟩
    · exact h5
    · omega
    · omega
  have h2 := h.held k hk hka (by omega)
  rw [hh] at h2
  have h3 : aheadB rooms l k i = true := by
    unfold aheadB
    rw [decide_eq_true_eq, clockAt_at rooms l i hi]
    exact Nat.le_trans h2 (Nat.le_trans (seen_ge rooms _ _ _) (clock_ge rooms _ _ _))
  simp [races, h3]
end Go.Proofs.Ord
