/-
  Laws of races, plainly: a trace cut short; no writes; places of one's own; one goroutine. No program in sight.
-/
import Derived.Test.YtalihehmbiohlaaDoorOrdK
namespace Go.Proofs.Ord

theorem evAt_take (l : List Ev) (n i : Nat) (hi : i < n) : evAt (l.take n) i = evAt l i := by
  unfold evAt
  rw [List.getD_eq_getElem?_getD, List.getD_eq_getElem?_getD, List.getElem?_take, if_pos hi]
theorem accs_take (l : List Ev) (n i : Nat) (hi : i ≤ n) (p : Int) : accs (l.take n) i p = accs l i p := by
  unfold accs
  apply List.filter_congr
  intro k hk
  rw [evAt_take l n k (by have := List.mem_range.1 hk; omega)]
theorem aheadB_take (rooms : List Int) (l : List Ev) (n a b : Nat) (ha : a < n) (hb : b < n) (hn : n ≤ l.length) : aheadB rooms (l.take n) a b = aheadB rooms l a b := by
  unfold aheadB
  rw [clockAt_take rooms l n a ha hn, clockAt_take rooms l n b hb hn, evAt_take l n a ha]
theorem cand_take (rooms : List Int) (l : List Ev) (n i : Nat) (hi : i < n) (hn : n ≤ l.length) : cand rooms (l.take n) i = cand rooms l i := by
  unfold cand
  rw [evAt_take l n i hi, accs_take l n i (Nat.le_of_lt hi)]
  apply List.filter_congr
  intro k hk
  have := accs_lt l i _ k hk
  unfold races
  rw [evAt_take l n k (by omega), evAt_take l n i hi, aheadB_take rooms l n k i (by omega) hi hn]
theorem told_take (l : List Ev) (n : Nat) (ks : List Nat) (h : ∀ k ∈ ks, k < n) : told (l.take n) ks = told l ks := by
  cases ks with
  | nil => rfl
  | cons k ks =>
    have : ∀ (m : List Nat) (b : Nat), (∀ x ∈ m, x < n) → b < n → m.foldl (fun b k => if better (l.take n) b k then k else b) b = m.foldl (fun b k => if better l b k then k else b) b := by
      intro m
      induction m with
      | nil => intro b _ _; rfl
      | cons x m ih =>
        intro b hm hb
        have hx := hm x (List.mem_cons_self ..)
        have e : better (l.take n) b x = better l b x := by
          unfold better
          rw [evAt_take l n x hx, evAt_take l n b hb]
        rw [List.foldl_cons, List.foldl_cons, e]
        exact ih _ (fun y hy => hm y (List.mem_cons_of_mem _ hy)) (by split <;> assumption)
    exact this ks k (fun x hx => h x (List.mem_cons_of_mem _ hx)) (h k (List.mem_cons_self ..))
theorem found_take (rooms : List Int) (l : List Ev) (n : Nat) (hn : n ≤ l.length) (i : Nat) (hi : i ≤ n) : foundL rooms (l.take n) i = foundL rooms l i := by
  induction i with
  | zero => rfl
  | succ i ih =>
    unfold foundL
    rw [ih (by omega), cand_take rooms l n i (by omega) hn, evAt_take l n i (by omega)]
    split
    · next h =>
      simp only [Bool.and_eq_true, Bool.not_eq_true', List.isEmpty_eq_false_iff] at h
      have hm := told_mem l _ h.1.2
      have hlt := cand_lt rooms l i _ hm
      congr 1
      unfold raceOf
      rw [told_take l n _ (fun k hk => by have := cand_lt rooms l i k hk; omega), evAt_take l n i (by omega), evAt_take l n _ (by omega)]
    · rfl
theorem racesP_take (rooms : List Int) (l : List Ev) (n : Nat) (hn : n ≤ l.length) : racesP rooms (l.take n) = foundL rooms l n := by
  unfold racesP
  rw [List.length_take, Nat.min_eq_left hn]
  exact found_take rooms l n hn n (Nat.le_refl _)
theorem found_mono (rooms : List Int) (l : List Ev) (n m : Nat) (h : n ≤ m) : ∀ r ∈ foundL rooms l n, r ∈ foundL rooms l m := by
  induction m with
  | zero => obtain rfl : n = 0 := by omega
            exact fun r hr => hr
  | succ m ih =>
    intro r hr
    by_cases e : n = m + 1
    · rw [← e]; exact hr
    · have := ih (by omega) r hr
      unfold foundL
      split
      · exact (insR_mem _ _ _).2 (.inr this)
      · exact this
/-- a trace cut short has no race that the whole one hasn't. -/
theorem races_within (rooms : List Int) (l : List Ev) (n : Nat) (hn : n ≤ l.length) : ∀ r ∈ racesP rooms (l.take n), r ∈ racesP rooms l := by
  rw [racesP_take rooms l n hn]
  exact found_mono rooms l n l.length hn
theorem found_nil (rooms : List Int) (l : List Ev) (n : Nat) (h : ∀ i, i < n → (evAt l i).acc = true → cand rooms l i = []) : foundL rooms l n = [] := by
  induction n with
  | zero => rfl
  | succ n ih =>
    unfold foundL
    rw [ih (fun i hi => h i (by omega)), if_neg]
    intro hc
    simp only [Bool.and_eq_true, Bool.not_eq_true', List.isEmpty_eq_false_iff] at hc
    exact hc.1.2 (h n (by omega) hc.1.1)
theorem cand_nil (rooms : List Int) (l : List Ev) (i : Nat) (h : ∀ k, k < i → (evAt l k).acc = true → (evAt l k).obj = (evAt l i).obj → races rooms l i k = false) : cand rooms l i = [] := by
  unfold cand
  rw [List.filter_eq_nil_iff]
  intro k hk
  obtain ⟨h1, h2, h3⟩ := (accs_mem l i _ k).1 hk
  rw [h k h1 h2 h3]
  simp
/-- without writes there is no race. -/
theorem races_reads (rooms : List Int) (l : List Ev) (h : ∀ e ∈ l, e.kd ≠ 2) : racesP rooms l = [] := by
  refine found_nil rooms l _ fun i hi _ => cand_nil rooms l i fun k hk _ _ => ?_
  have h1 : (evAt l k).wr = false := by rw [evAt_get l k (by omega)]; have := h _ (List.getElem_mem (l := l) (n := k) (by omega)); simp [Ev.wr, this]
  have h2 : (evAt l i).wr = false := by rw [evAt_get l i hi]; have := h _ (List.getElem_mem (l := l) (n := i) hi); simp [Ev.wr, this]
  simp [races, h1, h2]
/-- nor where each goroutine has places of its own. -/
theorem races_owns (rooms : List Int) (l : List Ev) (h : ∀ e ∈ l, e.acc = true → e.obj = e.g) : racesP rooms l = [] := by
  refine found_nil rooms l _ fun i hi ha => cand_nil rooms l i fun k hk hka hob => ?_
  have h1 : (evAt l k).obj = (evAt l k).g := by
    have hm := h _ (List.getElem_mem (l := l) (n := k) (by omega))
    rw [evAt_get l k (by omega)] at hka ⊢
    exact hm hka
  have h2 : (evAt l i).obj = (evAt l i).g := by
    have hm := h _ (List.getElem_mem (l := l) (n := i) hi)
    rw [evAt_get l i hi] at ha ⊢
    exact hm ha
  have : (evAt l k).g = (evAt l i).g := by rw [← h1, ← h2, hob]
  simp [races, this]
/-- nor where there is one goroutine. -/
theorem races_one (rooms : List Int) (l : List Ev) (h : ∀ e ∈ l, e.g = 0) : racesP rooms l = [] := by
  refine found_nil rooms l _ fun i hi _ => cand_nil rooms l i fun k hk _ _ => ?_
  have h1 : (evAt l k).g = 0 := by rw [evAt_get l k (by omega)]; exact h _ (List.getElem_mem (l := l) (n := k) (by omega))
  have h2 : (evAt l i).g = 0 := by rw [evAt_get l i hi]; exact h _ (List.getElem_mem (l := l) (n := i) hi)
  simp [races, h1, h2]
end Go.Proofs.Ord
