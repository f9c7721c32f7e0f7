/-
  Happening before as the document tells it, plainly: which events are directly ahead of which; a clock knows just what happens before. No program in sight.
-/
import Derived.Test.YtalihehmbiohlaaDoorOrdT
namespace Go.Proofs.Ord

/-- the places of a kind's events of an object among the first n. -/
def sel (kd c : Int) (l : List Ev) (n : Nat) : List Nat := (List.range n).filter fun k => (evAt l k).kd == kd && (evAt l k).obj == c
theorem sel_succ (kd c : Int) (l : List Ev) (n : Nat) : sel kd c l (n + 1) = sel kd c l n ++ (if (evAt l n).kd = kd ∧ (evAt l n).obj = c then [n] else []) := by
  unfold sel
  rw [List.range_succ, List.filter_append]
  congr 1
  simp only [List.filter_cons, List.filter_nil, Bool.and_eq_true, beq_iff_eq]
theorem sel_get (kd c : Int) (l : List Ev) (n k m : Nat) : (sel kd c l n)[k]? = some m ↔ m < n ∧ (evAt l m).kd = kd ∧ (evAt l m).obj = c ∧ (sel kd c l m).length = k := by
  induction n with
  | zero => simp [sel]
  | succ n ih =>
    rw [sel_succ]
    by_cases hk : k < (sel kd c l n).length
    · rw [List.getElem?_append_left hk, ih]
      constructor
      · rintro ⟨h1, h2⟩; exact ⟨by omega, h2⟩
      · rintro ⟨h1, h2, h3, h4⟩
        refine ⟨?_, h2, h3, h4⟩
        rcases Nat.lt_or_ge m n with h | h
        · exact h
        · obtain rfl : m = n := by omega
          omega
    · rw [List.getElem?_append_right (by omega)]
      split
      · next h =>
        constructor
        · intro h1
          rcases Nat.eq_zero_or_pos (k - (sel kd c l n).length) with h2 | h2
          · rw [h2] at h1
            obtain rfl : n = m := by simpa using h1
            exact ⟨by omega, h.1, h.2, by omega⟩
          · rw [List.getElem?_eq_none (by simp; omega)] at h1; cases h1
        · rintro ⟨h1, h2, h3, h4⟩
          rcases Nat.lt_or_ge m n with h5 | h5
          · have := ih.2 ⟨h5, h2, h3, h4⟩
            rw [List.getElem?_eq_none (by omega)] at this; cases this
          · obtain rfl : m = n := by omega
            rw [show k - (sel kd c l m).length = 0 by omega]; rfl
      · next h =>
        constructor
        · intro h1; simp at h1
        · rintro ⟨h1, h2, h3, h4⟩
          rcases Nat.lt_or_ge m n with h5 | h5
          · have := ih.2 ⟨h5, h2, h3, h4⟩
            rw [List.getElem?_eq_none (by omega)] at this; cases this
          · obtain rfl : m = n := by omega
            exact absurd ⟨h2, h3⟩ h
/-- how many events of its kind and object an event is behind. -/
def whichP (l : List Ev) (i : Nat) : Nat := (sel (evAt l i).kd (evAt l i).obj l i).length
def atmB (kd : Int) : Bool := kd == 7 || kd == 8 || kd == 9
/-- does the receive at m let the sender g know of it? -/
def backB (rooms : List Int) (l : List Ev) (m : Nat) (g : Int) : Bool :=
  decide ((evAt l m).kd = 6) && decide (roomOf rooms (evAt l m).obj = 0) && (match (sel 5 (evAt l m).obj l l.length)[whichP l m]? with | some s => decide (s < m) && decide ((evAt l s).g = g) | none => false)
/-- does what is at m reach the goroutine g? -/
def feedB (rooms : List Int) (l : List Ev) (m : Nat) (g : Int) : Bool := decide ((evAt l m).g = g) || (decide ((evAt l m).kd = 10) && decide ((evAt l m).obj = g)) || backB rooms l m g
/-- by their object: is the event at i ahead of the one at j? -/
def pairB (rooms : List Int) (l : List Ev) (i j : Nat) : Bool :=
  (decide ((evAt l i).kd = 4) && decide ((evAt l j).kd = 3)) || (atmB (evAt l i).kd && atmB (evAt l j).kd) ||
  (decide ((evAt l i).kd = 5) && decide ((evAt l j).kd = 6) && decide (whichP l i = whichP l j)) ||
  (decide ((evAt l i).kd = 6) && decide ((evAt l j).kd = 5) && (decide (0 < roomOf rooms (evAt l i).obj) && decide (roomOf rooms (evAt l i).obj ≤ whichP l j) && decide (whichP l j - roomOf rooms (evAt l i).obj = whichP l i)))
/-- is an event directly ahead of a later one? -/
def directB (rooms : List Int) (l : List Ev) (i j : Nat) : Bool := feedB rooms l i (evAt l j).g || (decide ((evAt l i).obj = (evAt l j).obj) && pairB rooms l i j)

/-- K is what the clocks of these events come to. -/
structure Rep (rooms : List Int) (l : List Ev) (S : Nat → Prop) (K : Nat → Nat) : Prop where
  ge : ∀ m, S m → ∀ x, clockAt rooms l m x ≤ K x
  is : ∀ x, K x = 0 ∨ ∃ m, S m ∧ K x = clockAt rooms l m x
section
variable {rooms : List Int} {l : List Ev} {S T : Nat → Prop} {K L : Nat → Nat}
theorem Rep.none (h : ∀ m, ¬ S m) : Rep rooms l S (fun _ => 0) := ⟨fun m hm => absurd hm (h m), fun _ => .inl rfl⟩
theorem Rep.one (m : Nat) : Rep rooms l (fun k => k = m) (clockAt rooms l m) := ⟨fun k hk x => by rw [hk]; exact Nat.le_refl _, fun x => .inr ⟨m, rfl, rfl⟩⟩
theorem Rep.congr (h : Rep rooms l S K) (e : ∀ m, S m ↔ T m) : Rep rooms l T K := ⟨fun m hm => h.ge m ((e m).2 hm), fun x => (h.is x).imp id fun ⟨m, h1, h2⟩ => ⟨m, (e m).1 h1, h2⟩⟩
theorem Rep.join (h : Rep rooms l S K) (g : Rep rooms l T L) : Rep rooms l (fun m => S m ∨ T m) (Ord.join K L) :=
  ⟨fun m hm x => by
    rcases hm with hm | hm
    · exact Nat.le_trans (h.ge m hm x) (Nat.le_max_left _ _)
    · exact Nat.le_trans (g.ge m hm x) (Nat.le_max_right _ _), fun x => by
    rcases Nat.le_total (K x) (L x) with h1 | h1
    · have : Ord.join K L x = L x := Nat.max_eq_right h1
      rw [this]
      exact (g.is x).imp id fun ⟨m, h1, h2⟩ => ⟨m, .inr h1, h2⟩
    · have : Ord.join K L x = K x := Nat.max_eq_left h1
      rw [this]
      exact (h.is x).imp id fun ⟨m, h1, h2⟩ => ⟨m, .inl h1, h2⟩⟩
/-- a clock that is no less than all of them. -/
theorem Rep.top (h : Rep rooms l S K) (n : Nat) (hn : ∀ x, K x ≤ clockAt rooms l n x) : Rep rooms l (fun m => S m ∨ m = n) (clockAt rooms l n) :=
  ⟨fun m hm x => by
    rcases hm with hm | hm
    · exact Nat.le_trans (h.ge m hm x) (hn x)
    · rw [hm]; exact Nat.le_refl _, fun x => .inr ⟨n, .inr rfl, rfl⟩⟩
end
/-- what the watcher has seen behind n events. -/
structure Inv (rooms : List Int) (l : List Ev) (n : Nat) (s : St) : Prop where
  own : ∀ g : Nat, g < 8 → Rep rooms l (fun m => m < n ∧ feedB rooms l m g = true) (s.own g)
  mut_ : ∀ c, Rep rooms l (fun m => m < n ∧ (evAt l m).kd = 4 ∧ (evAt l m).obj = c) (s.mut_ c)
  atm : ∀ c, Rep rooms l (fun m => m < n ∧ atmB (evAt l m).kd = true ∧ (evAt l m).obj = c) (s.atm c)
  sent : ∀ c, (s.pp c).sent = (sel 5 c l n).map (clockAt rooms l)
  got : ∀ c, (s.pp c).got = (sel 6 c l n).map (clockAt rooms l)
  frm : ∀ c, (s.pp c).frm = (sel 5 c l n).map fun k => (evAt l k).g.toNat
theorem nth_map (rooms : List Int) (l : List Ev) (is : List Nat) (k m : Nat) (h : is[k]? = some m) : nth (is.map (clockAt rooms l)) k = clockAt rooms l m := by
  unfold nth
  rw [List.getD_eq_getElem?_getD, List.getElem?_map, h]
  rfl
/-- what an event learns is what is directly ahead of it. -/
theorem seen_rep (rooms : List Int) (l : List Ev) (n : Nat) (hn : n < l.length) (hok : l.all Ev.ok = true) (s : St) (h : Inv rooms l n s) :
    Rep rooms l (fun m => m < n ∧ directB rooms l m n = true) (s.seen rooms (evAt l n)) := by
  have hg : 0 ≤ (evAt l n).g ∧ (evAt l n).g < 8 := by
    have := List.all_eq_true.1 hok l[n] (List.getElem_mem _)
    rw [evAt_get l n hn]
    simp only [Ev.ok, Bool.and_eq_true, Bool.or_eq_true, decide_eq_true_eq] at this
    omega
  have ho := h.own (evAt l n).g.toNat (by omega)
  rw [Int.toNat_of_nonneg hg.1] at ho
  have hw : ∀ kd, (evAt l n).kd = kd → whichP l n = (sel kd (evAt l n).obj l n).length := fun kd e => by unfold whichP; rw [e]
  obtain ⟨⟨g, kd, ob, at_⟩, he⟩ : ∃ e, evAt l n = e := ⟨_, rfl⟩
  simp only [he] at hg ho hw ⊢
  have hdir : ∀ m, directB rooms l m n = (feedB rooms l m g || (decide ((evAt l m).obj = ob) && pairB rooms l m n)) := fun m => by unfold directB; rw [he]
  have hpair : ∀ m, pairB rooms l m n = ((decide ((evAt l m).kd = 4) && decide (kd = 3)) || (atmB (evAt l m).kd && atmB kd) || (decide ((evAt l m).kd = 5) && decide (kd = 6) && decide (whichP l m = whichP l n)) || (decide ((evAt l m).kd = 6) && decide (kd = 5) && (decide (0 < roomOf rooms (evAt l m).obj) && decide (roomOf rooms (evAt l m).obj ≤ whichP l n) && decide (whichP l n - roomOf rooms (evAt l m).obj = whichP l m)))) := fun m => by unfold pairB; rw [he]
  unfold St.seen
  simp only []
  split
  · next h3 =>
    subst h3
    refine (ho.join (h.mut_ ob)).congr fun m => ?_
    rw [hdir, hpair]
    simp [atmB]
    constructor
    · rintro (⟨h1, h2⟩ | ⟨h1, h2, h3⟩)
      · exact ⟨h1, .inl h2⟩
      · exact ⟨h1, .inr ⟨h3, h2⟩⟩
    · rintro ⟨h1, h2 | ⟨h2, h3⟩⟩
      · exact .inl ⟨h1, h2⟩
      · exact .inr ⟨h1, h3, h2⟩
  · next h3 =>
    split
    · next h7 =>
      refine (ho.join (h.atm ob)).congr fun m => ?_
      rw [hdir, hpair]
      have ha : atmB kd = true := by simp [atmB]; omega
      rw [ha, decide_eq_false h3, decide_eq_false (show ¬ kd = 6 by omega), decide_eq_false (show ¬ kd = 5 by omega)]
      simp
      constructor
      · rintro (⟨h1, h2⟩ | ⟨h1, h2, h3⟩)
        · exact ⟨h1, .inl h2⟩
        · exact ⟨h1, .inr ⟨h3, h2⟩⟩
      · rintro ⟨h1, h2 | ⟨h2, h3⟩⟩
        · exact .inl ⟨h1, h2⟩
        · exact .inr ⟨h1, h3, h2⟩
    · next h7 =>
      have ha : atmB kd = false := by
        cases hb : atmB kd
        · rfl
        · exact absurd (by simpa [atmB, or_assoc] using hb) h7
      split
      · next h5 =>
        subst h5
        have hs := hw 5 rfl
        rw [h.sent ob, h.got ob, List.length_map, List.length_map, ← hs]
        have key : ∀ m, m < n → (directB rooms l m n = true ↔ feedB rooms l m g = true ∨ (0 < roomOf rooms ob ∧ roomOf rooms ob ≤ whichP l n ∧ (sel 6 ob l n)[whichP l n - roomOf rooms ob]? = some m)) := by
          intro m hm
          rw [hdir, hpair, ha, sel_get]
          simp only [decide_eq_false (show ¬ (5 : Int) = 3 by decide), decide_eq_false (show ¬ (5 : Int) = 6 by decide), Bool.and_false, Bool.false_and, Bool.or_false, Bool.false_or, decide_true, Bool.and_true, Bool.or_eq_true, Bool.and_eq_true, decide_eq_true_eq]
          constructor
          · rintro (h1 | ⟨h1, h2, ⟨h3, h4⟩, h5⟩)
            · exact .inl h1
            · rw [h1] at h3 h4 h5
              refine .inr ⟨h3, h4, hm, h2, h1, ?_⟩
              rw [h5]; unfold whichP; rw [h1, h2]
          · rintro (h1 | ⟨h1, h2, h3, h4, h5, h6⟩)
            · exact .inl h1
            · refine .inr ⟨h5, h4, ⟨by rw [h5]; exact h1, by rw [h5]; exact h2⟩, ?_⟩
              rw [h5, ← h6]; unfold whichP; rw [h4, h5]
        split
        · next hc =>
          obtain ⟨m0, hm0⟩ : ∃ m0, (sel 6 ob l n)[whichP l n - roomOf rooms ob]? = some m0 := ⟨_, List.getElem?_eq_getElem hc.2.2⟩
          rw [nth_map rooms l _ _ m0 hm0]
          refine (ho.join (Rep.one m0)).congr fun m => ?_
          constructor
          · rintro (⟨h1, h2⟩ | h1)
            · exact ⟨h1, (key m h1).2 (.inl h2)⟩
            · have hlt := ((sel_get 6 ob l n _ m0).1 hm0).1
              rw [h1]
              exact ⟨hlt, (key m0 hlt).2 (.inr ⟨hc.1, hc.2.1, hm0⟩)⟩
          · rintro ⟨h1, h2⟩
            rcases (key m h1).1 h2 with h3 | ⟨_, _, h3⟩
            · exact .inl ⟨h1, h3⟩
            · rw [hm0] at h3; exact .inr (Option.some.inj h3).symm
        · next hc =>
          refine ho.congr fun m => ?_
          constructor
          · rintro ⟨h1, h2⟩; exact ⟨h1, (key m h1).2 (.inl h2)⟩
          · rintro ⟨h1, h2⟩
            rcases (key m h1).1 h2 with h3 | ⟨h3, h4, h5⟩
            · exact ⟨h1, h3⟩
            · exfalso
              apply hc
              refine ⟨h3, h4, ?_⟩
              rcases Nat.lt_or_ge (whichP l n - roomOf rooms ob) (sel 6 ob l n).length with h6 | h6
              · exact h6
              · rw [List.getElem?_eq_none h6] at h5; cases h5
      · next h5 =>
        split
        · next h6 =>
          subst h6
          have hs := hw 6 rfl
          rw [h.sent ob, h.got ob, List.length_map, List.length_map, ← hs]
          have key : ∀ m, m < n → (directB rooms l m n = true ↔ feedB rooms l m g = true ∨ (sel 5 ob l n)[whichP l n]? = some m) := by
            intro m hm
            rw [hdir, hpair, ha, sel_get]
            simp only [decide_eq_false (show ¬ (6 : Int) = 3 by decide), decide_eq_false (show ¬ (6 : Int) = 5 by decide), Bool.and_false, Bool.false_and, Bool.or_false, Bool.false_or, decide_true, Bool.and_true, Bool.or_eq_true, Bool.and_eq_true, decide_eq_true_eq]
            constructor
            · rintro (h1 | ⟨h1, h2, h3⟩)
              · exact .inl h1
              · refine .inr ⟨hm, h2, h1, ?_⟩
                rw [← h3]; unfold whichP; rw [h1, h2]
            · rintro (h1 | ⟨h1, h2, h3, h4⟩)
              · exact .inl h1
              · refine .inr ⟨h3, h2, ?_⟩
                rw [← h4]; unfold whichP; rw [h2, h3]
          split
          · next hc =>
            obtain ⟨m0, hm0⟩ : ∃ m0, (sel 5 ob l n)[whichP l n]? = some m0 := ⟨_, List.getElem?_eq_getElem hc⟩
            rw [nth_map rooms l _ _ m0 hm0]
            refine (ho.join (Rep.one m0)).congr fun m => ?_
            constructor
            · rintro (⟨h1, h2⟩ | h1)
              · exact ⟨h1, (key m h1).2 (.inl h2)⟩
              · have hlt := ((sel_get 5 ob l n _ m0).1 hm0).1
                rw [h1]
                exact ⟨hlt, (key m0 hlt).2 (.inr hm0)⟩
            · rintro ⟨h1, h2⟩
              rcases (key m h1).1 h2 with h3 | h3
              · exact .inl ⟨h1, h3⟩
              · rw [hm0] at h3; exact .inr (Option.some.inj h3).symm
          · next hc =>
            refine ho.congr fun m => ?_
            constructor
            · rintro ⟨h1, h2⟩; exact ⟨h1, (key m h1).2 (.inl h2)⟩
            · rintro ⟨h1, h2⟩
              rcases (key m h1).1 h2 with h3 | h5
              · exact ⟨h1, h3⟩
              · rw [List.getElem?_eq_none (by omega)] at h5; cases h5
        · next h6 =>
          refine ho.congr fun m => ?_
          rw [hdir, hpair, ha, decide_eq_false h3, decide_eq_false h5, decide_eq_false h6]
          simp
end Go.Proofs.Ord
