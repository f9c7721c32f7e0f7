/-
  Happening before is an order, plainly: a clock that knows an event's own count knows all of its clock. No program in sight.
-/
import Derived.Test.YtalihehmbiohlaaDoorOrdK
namespace Go.Proofs.Ord

/-- how many of the first events a goroutine did. -/
def cnt (l : List Ev) (i g : Nat) : Nat := ((l.take i).filter fun e => e.g.toNat == g).length
theorem cnt_succ (l : List Ev) (i g : Nat) (h : i < l.length) : cnt l (i + 1) g = cnt l i g + (if l[i].g.toNat = g then 1 else 0) := by
  unfold cnt
  rw [List.take_succ_eq_append_getElem h, List.filter_append, List.length_append]
  congr 1
  by_cases e : l[i].g.toNat = g
  · have : (l[i].g.toNat == g) = true := by simp [e]
    simp [this, e]
  · have : (l[i].g.toNat == g) = false := by simp [e]
    simp [this, e]
theorem cnt_mono (l : List Ev) (g i j : Nat) (h : i ≤ j) (hj : j ≤ l.length) : cnt l i g ≤ cnt l j g := by
  induction j with
  | zero => obtain rfl : i = 0 := by omega
            exact Nat.le_refl _
  | succ j ih =>
    by_cases e : i = j + 1
    · rw [e]; exact Nat.le_refl _
    · have := ih (by omega) (by omega)
      rw [cnt_succ l j g (by omega)]
      omega
/-- a step only raises what goroutines have seen. -/
theorem step_own_ge (rooms : List Int) (s : St) (e : Ev) (g h : Nat) : upd s.own e.g.toNat (s.clock rooms e) g h ≤ (s.step rooms e).own g h := by
  have hj : ∀ (f : Nat → Nat → Nat) (x : Nat) (C : Nat → Nat), f g h ≤ upd f x (join (f x) C) g h := by
    intro f x C
    by_cases hx : g = x
    · have : upd f x (join (f x) C) g = join (f x) C := by unfold upd; rw [if_pos hx]
      rw [this, hx]
      exact Nat.le_max_left _ _
    · have : upd f x (join (f x) C) g = f g := by unfold upd; rw [if_neg hx]
      rw [this]; exact Nat.le_refl _
  unfold St.step
  simp only []
  split
  · exact Nat.le_refl _
  · split
    · exact Nat.le_refl _
    · split
      · exact hj _ _ _
      · split
        · exact Nat.le_refl _
        · split
          · simp only []
            split
            · exact hj _ _ _
            · exact Nat.le_refl _
          · exact Nat.le_refl _
theorem clock_own (rooms : List Int) (s : St) (e : Ev) : s.clock rooms e e.g.toNat = s.seen rooms e e.g.toNat + 1 := by
  unfold St.clock join single
  rw [if_pos rfl]
  omega
theorem clock_ge (rooms : List Int) (s : St) (e : Ev) (g : Nat) : s.seen rooms e g ≤ s.clock rooms e g := Nat.le_max_left _ _
theorem seen_ge (rooms : List Int) (s : St) (e : Ev) (g : Nat) : s.own e.g.toNat g ≤ s.seen rooms e g := by
  unfold St.seen
  repeat' split
  all_goals first
    | exact Nat.le_refl _
    | exact Nat.le_max_left _ _
/-- no count is above what there is; one's own is just that. -/
theorem counts (rooms : List Int) (l : List Ev) (i : Nat) (hi : i ≤ l.length) : (St.run rooms (l.take i)).All (fun K => ∀ g, K g ≤ cnt l i g) ∧ ∀ g, (St.run rooms (l.take i)).own g g = cnt l i g := by
  induction i with
  | zero => exact ⟨St.All.new fun _ => Nat.zero_le _, fun g => rfl⟩
  | succ i ih =>
    obtain ⟨h1, h2⟩ := ih (by omega)
    have hm : ∀ g, cnt l i g ≤ cnt l (i + 1) g := fun g => cnt_mono l g i (i + 1) (by omega) hi
    rw [run_take rooms l i (by omega)]
    have hs := h1.seen (fun K L hK hL => fun g => Nat.max_le.2 ⟨hK g, hL g⟩) rooms l[i]
    have hc : ∀ g, (St.run rooms (l.take i)).clock rooms l[i] g ≤ cnt l (i + 1) g := by
      intro g
      have h3 := hs g
      have h4 := hs l[i].g.toNat
      rw [cnt_succ l i g (by omega)]
      unfold St.clock join single
      by_cases e : g = l[i].g.toNat
      · subst e
        simp only [if_true]
        omega
      · rw [if_neg e]
        have := hm g
        rw [cnt_succ l i g (by omega)] at this
        omega
    have hall := (h1.mono (fun K hK g => Nat.le_trans (hK g) (hm g))).step (fun K L hK hL => fun g => Nat.max_le.2 ⟨hK g, hL g⟩) rooms l[i] hc
    refine ⟨hall, fun g => Nat.le_antisymm (hall.own g g) ?_⟩
    refine Nat.le_trans ?_ (step_own_ge rooms _ l[i] g g)
    rw [cnt_succ l i g (by omega)]
    unfold upd
    by_cases e : g = l[i].g.toNat
    · rw [if_pos e, e, clock_own, if_pos rfl]
      have := seen_ge rooms (St.run rooms (l.take i)) l[i] l[i].g.toNat
      rw [h2] at this
      omega
    · rw [if_neg e, h2, if_neg (fun h => e h.symm)]
      exact Nat.le_refl _
/-- an event's own count. -/
def ownN (rooms : List Int) (l : List Ev) (k : Nat) : Nat := clockAt rooms l k (evAt l k).g.toNat
theorem ownN_eq (rooms : List Int) (l : List Ev) (k : Nat) (h : k < l.length) : ownN rooms l k = cnt l k (evAt l k).g.toNat + 1 := by
  unfold ownN
  rw [clockAt_at rooms l k h, evAt_get l k h, clock_own]
  obtain ⟨h1, h2⟩ := counts rooms l k (by omega)
  have hs := h1.seen (fun K L hK hL => fun g => Nat.max_le.2 ⟨hK g, hL g⟩) rooms l[k] l[k].g.toNat
  have hg := seen_ge rooms (St.run rooms (l.take k)) l[k] l[k].g.toNat
  rw [h2] at hg
  omega
theorem ownN_lt (rooms : List Int) (l : List Ev) (k i : Nat) (hk : k < i) (hi : i ≤ l.length) : ownN rooms l k ≤ cnt l i (evAt l k).g.toNat := by
  rw [ownN_eq rooms l k (by omega)]
  have := cnt_mono l (evAt l k).g.toNat (k + 1) i (by omega) hi
  rw [cnt_succ l k _ (by omega), evAt_get l k (by omega), if_pos rfl] at this
  rw [evAt_get l k (by omega)]
  omega
/-- K knows all that it knows of. -/
def Knows (rooms : List Int) (l : List Ev) (i : Nat) (K : Nat → Nat) : Prop := ∀ k, k < i → ownN rooms l k ≤ K (evAt l k).g.toNat → ∀ g, clockAt rooms l k g ≤ K g
theorem Knows.join {rooms : List Int} {l : List Ev} {i : Nat} {K L : Nat → Nat} (hK : Knows rooms l i K) (hL : Knows rooms l i L) : Knows rooms l i (join K L) := by
  intro k hk h g
  rcases Nat.le_total (K (evAt l k).g.toNat) (L (evAt l k).g.toNat) with h1 | h1
  · have : Ord.join K L (evAt l k).g.toNat = L (evAt l k).g.toNat := Nat.max_eq_right h1
    rw [this] at h
    exact Nat.le_trans (hL k hk h g) (Nat.le_max_right _ _)
  · have : Ord.join K L (evAt l k).g.toNat = K (evAt l k).g.toNat := Nat.max_eq_left h1
    rw [this] at h
    exact Nat.le_trans (hK k hk h g) (Nat.le_max_left _ _)
theorem clock_knows (rooms : List Int) (l : List Ev) (i : Nat) (hi : i < l.length) (h : (St.run rooms (l.take i)).All (Knows rooms l i)) : Knows rooms l (i + 1) (clockAt rooms l i) := by
  obtain ⟨c1, c2⟩ := counts rooms l i (by omega)
  have hs := h.seen (fun K L hK hL => hK.join hL) rooms l[i]
  intro k hk hn g
  by_cases e : k = i
  · subst e; exact Nat.le_refl _
  · have hki : k < i := by omega
    rw [clockAt_at rooms l i hi] at hn ⊢
    refine Nat.le_trans (hs k hki ?_ g) (clock_ge rooms _ _ g)
    by_cases hg : (evAt l k).g.toNat = l[i].g.toNat
    · have h1 := ownN_lt rooms l k i hki (by omega)
      have h2 := seen_ge rooms (St.run rooms (l.take i)) l[i] l[i].g.toNat
      rw [c2] at h2
      rw [hg] at h1 ⊢
      omega
    · have : (St.run rooms (l.take i)).clock rooms l[i] (evAt l k).g.toNat = (St.run rooms (l.take i)).seen rooms l[i] (evAt l k).g.toNat := by
        unfold St.clock Ord.join single
        rw [if_neg hg]
        exact Nat.max_eq_left (Nat.zero_le _)
      rwa [this] at hn
theorem run_knows (rooms : List Int) (l : List Ev) (i : Nat) (hi : i ≤ l.length) : (St.run rooms (l.take i)).All (Knows rooms l i) := by
  induction i with
  | zero => exact St.All.new fun k hk => by omega
  | succ i ih =>
    have h1 := ih (by omega)
    obtain ⟨c1, _⟩ := counts rooms l i (by omega)
    have hc := clock_knows rooms l i (by omega) h1
    rw [run_take rooms l i (by omega)]
    have up : ∀ K, (Knows rooms l i K ∧ ∀ g, K g ≤ cnt l i g) → Knows rooms l (i + 1) K := by
      rintro K ⟨hK, hb⟩ k hk hn g
      by_cases e : k = i
      · subst e
        rw [ownN_eq rooms l k (by omega)] at hn
        have := hb (evAt l k).g.toNat
        omega
      · exact hK k (by omega) hn g
    have hall : (St.run rooms (l.take i)).All (Knows rooms l (i + 1)) :=
      ⟨fun g => up _ ⟨h1.own g, c1.own g⟩, fun c => up _ ⟨h1.mut_ c, c1.mut_ c⟩, fun c => up _ ⟨h1.atm c, c1.atm c⟩, fun c p hp K hK => up _ ⟨h1.sent c p hp K hK, c1.sent c p hp K hK⟩, fun c p hp K hK => up _ ⟨h1.got c p hp K hK, c1.got c p hp K hK⟩⟩
    exact hall.step (fun K L hK hL => hK.join hL) rooms l[i] (by rw [← clockAt_at rooms l i (by omega)]; exact hc)
/-- happening before goes through a third one. -/
theorem ahead_trans (rooms : List Int) (l : List Ev) (a b c : Nat) (hab : a < b) (hbc : b < c) (hc : c < l.length) (h1 : aheadB rooms l a b = true) (h2 : aheadB rooms l b c = true) : aheadB rooms l a c = true := by
  have hk := clock_knows rooms l c hc (run_knows rooms l c (by omega))
  unfold aheadB at h1 h2 ⊢
  simp only [decide_eq_true_eq] at h1 h2 ⊢
  have := hk b (by omega) h2 (evAt l a).g.toNat
  omega
end Go.Proofs.Ord
