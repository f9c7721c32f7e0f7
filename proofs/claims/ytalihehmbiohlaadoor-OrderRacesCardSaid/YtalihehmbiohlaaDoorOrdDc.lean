/-
  What happens before what as a table, clocks counted out of it, and races found by it, plainly. No program in sight.
-/
import Derived.Test.YtalihehmbiohlaaDoorOrdDb
namespace Go.Proofs.Ord

/-- does the event at k happen before the one at j? -/
def hbB (rooms : List Int) (l : List Ev) (j k : Nat) : Bool := decide (k < j) && aheadB rooms l k j
/-- the row of j while its direct ones from i on are gone over. -/
def rowB (rooms : List Int) (l : List Ev) (j i k : Nat) : Bool := (List.range j).any fun m => decide (i ≤ m) && directB rooms l m j && (k == m || hbB rooms l m k)
section
variable {rooms : List Int} {l : List Ev} {i j k : Nat}
theorem row_iff : rowB rooms l j i k = true ↔ ∃ m, m < j ∧ i ≤ m ∧ directB rooms l m j = true ∧ (k = m ∨ hbB rooms l m k = true) := by
  unfold rowB
  rw [List.any_eq_true]
  constructor
  · rintro ⟨m, hm, h⟩
    simp only [Bool.and_eq_true, Bool.or_eq_true, decide_eq_true_eq, beq_iff_eq] at h
    exact ⟨m, List.mem_range.1 hm, h.1.1, h.1.2, h.2⟩
  · rintro ⟨m, hm, h1, h2, h3⟩
    refine ⟨m, List.mem_range.2 hm, ?_⟩
    simp only [Bool.and_eq_true, Bool.or_eq_true, decide_eq_true_eq, beq_iff_eq]
    exact ⟨⟨h1, h2⟩, h3⟩
theorem row_none : rowB rooms l j j k = false := by
  cases h : rowB rooms l j j k
  · rfl
  · obtain ⟨m, h1, h2, _⟩ := row_iff.1 h; omega
theorem hb_iff (hok : l.all Ev.ok = true) (hj : j < l.length) : hbB rooms l j k = true ↔ ∃ m, m < j ∧ directB rooms l m j = true ∧ (k = m ∨ hbB rooms l m k = true) := by
  unfold hbB
  constructor
  · intro h
    simp only [Bool.and_eq_true, decide_eq_true_eq] at h
    obtain ⟨m, h1, h2, h3⟩ := (ahead_iff rooms l hok k j h.1 hj).1 h.2
    refine ⟨m, h1, h2, h3.imp id fun h => ?_⟩
    simp only [Bool.and_eq_true, decide_eq_true_eq]
    exact h
  · rintro ⟨m, h1, h2, h3⟩
    have hk : k < j := by
      rcases h3 with h | h
      · omega
      · simp only [Bool.and_eq_true, decide_eq_true_eq] at h; omega
    simp only [Bool.and_eq_true, decide_eq_true_eq]
    refine ⟨hk, (ahead_iff rooms l hok k j hk hj).2 ⟨m, h1, h2, h3.imp id fun h => ?_⟩⟩
    simpa only [Bool.and_eq_true, decide_eq_true_eq] using h
theorem row_all (hok : l.all Ev.ok = true) (hj : j < l.length) : rowB rooms l j 0 k = hbB rooms l j k := by
  rw [Bool.eq_iff_iff, row_iff, hb_iff hok hj]
  simp
theorem row_step (hi : i < j) : rowB rooms l j i k = (rowB rooms l j (i + 1) k || (directB rooms l i j && (k == i || hbB rooms l i k))) := by
  rw [Bool.eq_iff_iff, Bool.or_eq_true, row_iff, row_iff]
  simp only [Bool.and_eq_true, Bool.or_eq_true, beq_iff_eq]
  constructor
  · rintro ⟨m, h1, h2, h3, h4⟩
    by_cases e : i = m
    · subst e; exact .inr ⟨h3, h4⟩
    · exact .inl ⟨m, h1, by omega, h3, h4⟩
  · rintro (⟨m, h1, h2, h3, h4⟩ | ⟨h3, h4⟩)
    · exact ⟨m, h1, by omega, h3, h4⟩
    · exact ⟨i, hi, Nat.le_refl _, h3, h4⟩
theorem hb_trans {a b c : Nat} (hc : c < l.length) (h1 : hbB rooms l b a = true) (h2 : hbB rooms l c b = true) : hbB rooms l c a = true := by
  unfold hbB at h1 h2 ⊢
  simp only [Bool.and_eq_true, decide_eq_true_eq] at h1 h2 ⊢
  exact ⟨by omega, ahead_trans rooms l a b c h1.1 h2.1 hc h1.2 h2.2⟩
theorem row_skip (hj : j < l.length) (hi : i < j) (h : (rowB rooms l j (i + 1) i || !directB rooms l i j) = true) : rowB rooms l j i k = rowB rooms l j (i + 1) k := by
  rw [row_step hi]
  cases hd : directB rooms l i j
  · simp
  · rw [hd] at h
    simp only [Bool.not_true, Bool.or_false] at h
    simp only [Bool.true_and]
    cases hk : (k == i || hbB rooms l i k)
    · simp
    · have : rowB rooms l j (i + 1) k = true := by
        rcases Bool.or_eq_true _ _ ▸ hk with h1 | h1
        · rw [eq_of_beq h1]; exact h
        · obtain ⟨m, m1, m2, m3, m4⟩ := row_iff.1 h
          refine row_iff.2 ⟨m, m1, m2, m3, .inr ?_⟩
          rcases m4 with m4 | m4
          · omega
          · exact hb_trans (by omega) h1 m4
      rw [this]; rfl
theorem hb_high (h : j ≤ k) : hbB rooms l j k = false := by
  unfold hbB
  rw [decide_eq_false (by omega)]; rfl
theorem row_self (h : j ≤ k) : rowB rooms l j i k = false := by
  cases hh : rowB rooms l j i k
  · rfl
  · obtain ⟨m, h1, h2, h3, h4⟩ := row_iff.1 hh
    rcases h4 with h4 | h4
    · omega
    · unfold hbB at h4
      simp only [Bool.and_eq_true, decide_eq_true_eq] at h4
      omega
/-- how many of the first n events a goroutine did that are at j or happen before. -/
def cntB (rooms : List Int) (l : List Ev) (j n g : Nat) : Nat := ((List.range n).filter fun i => (i == j || hbB rooms l j i) && decide ((evAt l i).g.toNat = g)).length
theorem cntB_succ (n g : Nat) : cntB rooms l j (n + 1) g = cntB rooms l j n g + (if (n == j || hbB rooms l j n) = true ∧ (evAt l n).g.toNat = g then 1 else 0) := by
  unfold cntB
  rw [List.range_succ, List.filter_append, List.length_append]
  congr 1
  by_cases h : (n == j || hbB rooms l j n) = true ∧ (evAt l n).g.toNat = g
  · rw [if_pos h]; simp [h.1, h.2]
  · rw [if_neg h]
    rw [List.filter_cons, if_neg]
    · rfl
    · simpa using h
theorem clock_cnt (hj : j < l.length) (g : Nat) : clockAt rooms l j g ≤ cnt l (j + 1) g := by
  have h3 := (counts rooms l (j + 1) (by omega)).1.own (evAt l j).g.toNat g
  refine Nat.le_trans ?_ h3
  rw [run_take rooms l j (by omega)]
  refine Nat.le_trans ?_ (step_own_ge rooms _ l[j] (evAt l j).g.toNat g)
  rw [evAt_get l j (by omega)]
  unfold upd
  rw [if_pos rfl, clockAt_at rooms l j (by omega)]
  exact Nat.le_refl _
theorem cntB_min (hj : j < l.length) (n g : Nat) (hn : n ≤ j + 1) : cntB rooms l j n g = min (cnt l n g) (clockAt rooms l j g) := by
  induction n with
  | zero => simp [cntB, cnt]
  | succ n ih =>
    rw [cntB_succ, ih (by omega), cnt_succ l n g (by omega), ← evAt_get l n (by omega)]
    by_cases hg : (evAt l n).g.toNat = g
    · have hN := ownN_eq rooms l n (by omega)
      have hN2 : ownN rooms l n = clockAt rooms l n (evAt l n).g.toNat := rfl
      rw [hg] at hN hN2
      have hk : (n == j || hbB rooms l j n) = true ↔ cnt l n g + 1 ≤ clockAt rooms l j g := by
        by_cases e : n = j
        · subst e
          simp only [beq_self_eq_true, Bool.true_or, true_iff]
          omega
        · have : (n == j) = false := by simp [e]
          rw [this, Bool.false_or]
          unfold hbB aheadB
          simp only [Bool.and_eq_true, decide_eq_true_eq]
          rw [hg]
          omega
      simp only [hg, and_true, if_true]
      by_cases hh : cnt l n g + 1 ≤ clockAt rooms l j g
      · rw [if_pos (hk.2 hh)]; omega
      · rw [if_neg (fun h => hh (hk.1 h))]; omega
    · simp [hg]
/-- a clock counts what is at the event or happens before. -/
theorem cntB_all (hj : j < l.length) (g : Nat) : cntB rooms l j (j + 1) g = clockAt rooms l j g := by
  rw [cntB_min hj (j + 1) g (Nat.le_refl _)]
  exact Nat.min_eq_right (clock_cnt hj g)
/-- the races by the table: which earlier event is told. -/
def fstB (rooms : List Int) (l : List Ev) (j : Nat) : Nat → Option Nat
  | 0 => none
  | i + 1 => if (evAt l i).acc && ((evAt l i).obj == (evAt l j).obj) && races rooms l j i then (match fstB rooms l j i with | none => some i | some b => if better l b i then some i else some b) else fstB rooms l j i
theorem fst_told (rooms : List Int) (l : List Ev) (j n : Nat) : fstB rooms l j n = (match (((List.range n).filter fun k => (evAt l k).acc && (evAt l k).obj == (evAt l j).obj).filter (races rooms l j)) with | [] => none | ks => some (told l ks)) := by
  induction n with
  | zero => rfl
  | succ n ih =>
    unfold fstB
    rw [ih, List.range_succ, List.filter_append, List.filter_append]
    obtain ⟨ks, hks⟩ : ∃ ks, (((List.range n).filter fun k => (evAt l k).acc && (evAt l k).obj == (evAt l j).obj).filter (races rooms l j)) = ks := ⟨_, rfl⟩
    rw [hks]
    by_cases h : ((evAt l n).acc && ((evAt l n).obj == (evAt l j).obj)) = true
    · by_cases hr : races rooms l j n = true
      · rw [if_pos (by rw [h, hr]; rfl)]
        have : ([n].filter fun k => (evAt l k).acc && (evAt l k).obj == (evAt l j).obj).filter (races rooms l j) = [n] := by
          rw [List.filter_cons, if_pos h, List.filter_nil, List.filter_cons, if_pos hr, List.filter_nil]
        rw [this]
        cases ks with
        | nil => rfl
        | cons k ks =>
          simp only [List.cons_append]
          have ht : told l (k :: (ks ++ [n])) = if better l (told l (k :: ks)) n then n else told l (k :: ks) := by
            show (ks ++ [n]).foldl _ k = _
            rw [List.foldl_append]
            rfl
          rw [ht]
          split <;> rfl
      · rw [if_neg (by rw [h]; simpa using hr)]
        have : ([n].filter fun k => (evAt l k).acc && (evAt l k).obj == (evAt l j).obj).filter (races rooms l j) = [] := by
          rw [List.filter_cons, if_pos h, List.filter_nil, List.filter_cons, if_neg hr, List.filter_nil]
        rw [this, List.append_nil]
    · rw [if_neg (by intro h2; exact h (Bool.and_eq_true _ _ ▸ h2).1)]
      have : ([n].filter fun k => (evAt l k).acc && (evAt l k).obj == (evAt l j).obj).filter (races rooms l j) = [] := by
        rw [List.filter_cons, if_neg h]; rfl
      rw [this, List.append_nil]
theorem fst_cand (rooms : List Int) (l : List Ev) (j : Nat) : fstB rooms l j j = (match cand rooms l j with | [] => none | ks => some (told l ks)) := fst_told rooms l j j
/-- the place of the k-th event of a kind and an object; -1: there is none. -/
def nthP (kd ob : Int) (l : List Ev) (k : Nat) : Int := ((sel kd ob l l.length)[k]?).elim (-1) fun m => (m : Int)
/-- how many stand ahead of a place, from the end. -/
def upTo (p : Int) : List Rc → Nat
  | [] => 0
  | x :: xs => if p < x.pl then 0 else upTo p xs + 1
theorem upTo_le (p : Int) (rs : List Rc) : upTo p rs ≤ rs.length := by
  induction rs with
  | nil => exact Nat.le_refl _
  | cons x xs ih => unfold upTo; split <;> simp <;> omega
theorem insR_upTo (r : Rc) (rs : List Rc) : insR r rs = rs.take (upTo r.pl rs) ++ r :: rs.drop (upTo r.pl rs) := by
  induction rs with
  | nil => rfl
  | cons x xs ih =>
    unfold insR upTo
    split
    · rfl
    · rw [List.take_succ_cons, List.drop_succ_cons, ih]; rfl
def Sorted (rs : List Rc) : Prop := rs.Pairwise fun a b => a.pl ≤ b.pl
theorem insR_sorted (r : Rc) (rs : List Rc) (h : Sorted rs) : Sorted (insR r rs) := by
  unfold Sorted at *
  induction rs with
  | nil => simp [insR]
  | cons x xs ih =>
    unfold insR
    rw [List.pairwise_cons] at h
    split
    · next hl =>
      refine List.pairwise_cons.2 ⟨fun y hy => ?_, List.pairwise_cons.2 h⟩
      rcases List.mem_cons.1 hy with rfl | hy
      · omega
      · have := h.1 y hy; omega
    · next hl =>
      refine List.pairwise_cons.2 ⟨fun y hy => ?_, ih h.2⟩
      rcases (insR_mem _ _ _).1 hy with rfl | hy
      · omega
      · exact h.1 y hy
theorem found_sorted (rooms : List Int) (l : List Ev) (n : Nat) : Sorted (foundL rooms l n) := by
  induction n with
  | zero => exact List.Pairwise.nil
  | succ n ih =>
    unfold foundL
    split
    · exact insR_sorted _ _ ih
    · exact ih
/-- in a sorted row: what is above a place stands behind, what isn't stands ahead. -/
theorem upTo_lt (p : Int) (rs : List Rc) (k : Nat) (hk : k < upTo p rs) (h : Sorted rs) (hl : k < rs.length) : ¬ p < rs[k].pl := by
  induction rs generalizing k with
  | nil => simp at hl
  | cons x xs ih =>
    unfold upTo at hk
    split at hk
    · omega
    · next hx =>
      cases k with
      | zero => exact hx
      | succ k => exact ih k (by omega) (List.pairwise_cons.1 h).2 (by simpa using hl)
theorem upTo_ge (p : Int) (rs : List Rc) (k : Nat) (hk : upTo p rs ≤ k) (h : Sorted rs) (hl : k < rs.length) : p < rs[k].pl := by
  induction rs generalizing k with
  | nil => simp at hl
  | cons x xs ih =>
    unfold upTo at hk
    unfold Sorted at h
    split at hk
    · next hx =>
      cases k with
      | zero => exact hx
      | succ k =>
        have := (List.pairwise_cons.1 h).1 (xs[k]'(by simpa using hl)) (List.getElem_mem _)
        simp only [List.getElem_cons_succ]
        omega
    · next hx =>
      cases k with
      | zero => omega
      | succ k => exact ih k (by omega) (List.pairwise_cons.1 h).2 (by simpa using hl)
end
end Go.Proofs.Ord
