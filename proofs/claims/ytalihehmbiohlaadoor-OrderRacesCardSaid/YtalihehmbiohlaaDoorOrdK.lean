/-
  Races, plainly: which accesses race with an earlier one, which earlier one is told, the races by places. No program in sight.
-/
import Derived.Test.YtalihehmbiohlaaDoorOrdL
namespace Go.Proofs.Ord

def Ev.acc (e : Ev) : Bool := e.kd == 1 || e.kd == 2
def Ev.wr (e : Ev) : Bool := e.kd == 2
def evAt (l : List Ev) (i : Nat) : Ev := l.getD i ⟨0, 0, 0, 0⟩
theorem evAt_get (l : List Ev) (i : Nat) (h : i < l.length) : evAt l i = l[i] := by
  unfold evAt
  rw [List.getD_eq_getElem?_getD, List.getElem?_eq_getElem h]
  rfl
/-- is the event at a, or does it happen before, the one at b? -/
def aheadB (rooms : List Int) (l : List Ev) (a b : Nat) : Bool := decide (clockAt rooms l a (evAt l a).g.toNat ≤ clockAt rooms l b (evAt l a).g.toNat)
/-- the accesses of a place among the first events. -/
def accs (l : List Ev) (i : Nat) (p : Int) : List Nat := (List.range i).filter fun k => (evAt l k).acc && (evAt l k).obj == p
/-- does the access at k race with the later one at i? -/
def races (rooms : List Int) (l : List Ev) (i k : Nat) : Bool := (evAt l k).g != (evAt l i).g && ((evAt l k).wr || (evAt l i).wr) && !aheadB rooms l k i
/-- the earlier accesses that race with the one at i. -/
def cand (rooms : List Int) (l : List Ev) (i : Nat) : List Nat := (accs l i (evAt l i).obj).filter (races rooms l i)
def better (l : List Ev) (b k : Nat) : Bool := ((evAt l k).wr && (!(evAt l b).wr || decide (b < k))) || (!(evAt l k).wr && !(evAt l b).wr && decide ((evAt l k).g ≤ (evAt l b).g))
/-- the earlier access that is told. -/
def told (l : List Ev) : List Nat → Nat
  | [] => 0
  | k :: ks => ks.foldl (fun b k => if better l b k then k else b) k
structure Rc where
  pl : Int
  fi : Int
  se : Int
  fw : Bool
  sw : Bool
deriving DecidableEq
def raceOf (l : List Ev) (f i : Nat) : Rc := ⟨(evAt l i).obj, (evAt l f).at_, (evAt l i).at_, (evAt l f).wr, (evAt l i).wr⟩
def insR (r : Rc) : List Rc → List Rc
  | [] => [r]
  | x :: xs => if r.pl < x.pl then r :: x :: xs else x :: insR r xs
/-- the races found behind so many events, by places. -/
def foundL (rooms : List Int) (l : List Ev) : Nat → List Rc
  | 0 => []
  | i + 1 => if (evAt l i).acc && !(cand rooms l i).isEmpty && (foundL rooms l i).all (fun r => r.pl != (evAt l i).obj) then insR (raceOf l (told l (cand rooms l i)) i) (foundL rooms l i) else foundL rooms l i
def racesP (rooms : List Int) (l : List Ev) : List Rc := foundL rooms l l.length

theorem accs_succ (l : List Ev) (i : Nat) (p : Int) : accs l (i + 1) p = accs l i p ++ (if (evAt l i).acc && (evAt l i).obj == p then [i] else []) := by
  unfold accs
  rw [List.range_succ, List.filter_append]
  congr 1
  simp only [List.filter_cons, List.filter_nil]
theorem accs_lt (l : List Ev) (i : Nat) (p : Int) : ∀ k ∈ accs l i p, k < i := fun k hk => List.mem_range.1 (List.mem_filter.1 hk).1
theorem accs_mem (l : List Ev) (i : Nat) (p : Int) (k : Nat) : k ∈ accs l i p ↔ k < i ∧ (evAt l k).acc = true ∧ (evAt l k).obj = p := by
  unfold accs
  rw [List.mem_filter, List.mem_range, Bool.and_eq_true, beq_iff_eq]
theorem cand_lt (rooms : List Int) (l : List Ev) (i : Nat) : ∀ k ∈ cand rooms l i, k < i := fun k hk => accs_lt l i _ k (List.mem_filter.1 hk).1
theorem accs_length (l : List Ev) (i : Nat) (p : Int) : (accs l i p).length ≤ i := by
  have := List.length_filter_le (fun k => (evAt l k).acc && (evAt l k).obj == p) (List.range i)
  rw [List.length_range] at this
  exact this
theorem cand_length (rooms : List Int) (l : List Ev) (i : Nat) : (cand rooms l i).length ≤ i := Nat.le_trans (List.length_filter_le _ _) (accs_length _ _ _)
theorem told_mem (l : List Ev) (ks : List Nat) (h : ks ≠ []) : told l ks ∈ ks := by
  cases ks with
  | nil => exact absurd rfl h
  | cons k ks =>
    have : ∀ (m : List Nat) (b : Nat), m.foldl (fun b k => if better l b k then k else b) b = b ∨ m.foldl (fun b k => if better l b k then k else b) b ∈ m := by
      intro m
      induction m with
      | nil => intro b; exact .inl rfl
      | cons x m ih =>
        intro b
        rw [List.foldl_cons]
        rcases ih (if better l b x then x else b) with h | h
        · rw [h]
          split
          · exact .inr (List.mem_cons_self ..)
          · exact .inl rfl
        · exact .inr (List.mem_cons_of_mem _ h)
    rcases this ks k with h | h
    · show ks.foldl _ k ∈ _
      rw [h]; exact List.mem_cons_self ..
    · exact List.mem_cons_of_mem _ h
theorem insR_mem (r : Rc) (l : List Rc) (x : Rc) : x ∈ insR r l ↔ x = r ∨ x ∈ l := by
  induction l with
  | nil => simp [insR]
  | cons y l ih =>
    unfold insR
    split
    · simp
    · simp only [List.mem_cons, ih]
      constructor
      · rintro (h | h | h)
        · exact .inr (.inl h)
        · exact .inl h
        · exact .inr (.inr h)
      · rintro (h | h | h)
        · exact .inr (.inl h)
        · exact .inl h
        · exact .inr (.inr h)
theorem insR_length (r : Rc) (l : List Rc) : (insR r l).length = l.length + 1 := by
  induction l with
  | nil => rfl
  | cons y l ih =>
    unfold insR
    split
    · rfl
    · rw [List.length_cons, ih, List.length_cons]
theorem found_length (rooms : List Int) (l : List Ev) (i : Nat) : (foundL rooms l i).length ≤ i := by
  induction i with
  | zero => exact Nat.le_refl _
  | succ i ih =>
    unfold foundL
    split
    · rw [insR_length]; omega
    · omega
theorem found_pl (rooms : List Int) (l : List Ev) (n : Nat) : ∀ r ∈ foundL rooms l n, ∃ i, i < n ∧ r.pl = (evAt l i).obj := by
  induction n with
  | zero => intro r hr; cases hr
  | succ n ih =>
    intro r hr
    unfold foundL at hr
    split at hr
    · rcases (insR_mem _ _ _).1 hr with rfl | h
      · exact ⟨n, Nat.lt_succ_self n, rfl⟩
      · obtain ⟨i, h1, h2⟩ := ih r h
        exact ⟨i, Nat.lt_succ_of_lt h1, h2⟩
    · obtain ⟨i, h1, h2⟩ := ih r hr
      exact ⟨i, Nat.lt_succ_of_lt h1, h2⟩
end Go.Proofs.Ord
