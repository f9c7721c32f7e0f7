/-
  Happening before, plainly: the watcher knows just what the document tells. No program in sight.
-/
import Derived.Test.YtalihehmbiohlaaDoorOrdD
namespace Go.Proofs.Ord

theorem back_iff (rooms : List Int) (l : List Ev) (n : Nat) (hn : n ≤ l.length) (g : Int) : backB rooms l n g = true ↔ (evAt l n).kd = 6 ∧ roomOf rooms (evAt l n).obj = 0 ∧ ∃ s, (sel 5 (evAt l n).obj l n)[whichP l n]? = some s ∧ (evAt l s).g = g := by
  unfold backB
  simp only [Bool.and_eq_true, decide_eq_true_eq, and_assoc]
  refine and_congr_right fun h1 => and_congr_right fun h2 => ?_
  constructor
  · intro h
    split at h
    · next s hs =>
      simp only [Bool.and_eq_true, decide_eq_true_eq] at h
      obtain ⟨_, q2, q3, q4⟩ := (sel_get _ _ _ _ _ _).1 hs
      exact ⟨s, (sel_get _ _ _ _ _ _).2 ⟨h.1, q2, q3, q4⟩, h.2⟩
    · cases h
  · rintro ⟨s, hs, hg⟩
    obtain ⟨q1, q2, q3, q4⟩ := (sel_get _ _ _ _ _ _).1 hs
    have : (sel 5 (evAt l n).obj l l.length)[whichP l n]? = some s := (sel_get _ _ _ _ _ _).2 ⟨by omega, q2, q3, q4⟩
    rw [this]
    simp [q1, hg]
theorem ok_g (l : List Ev) (hok : l.all Ev.ok = true) (n : Nat) (hn : n < l.length) : 0 ≤ (evAt l n).g ∧ (evAt l n).g < 8 ∧ ((evAt l n).kd = 10 → 0 ≤ (evAt l n).obj ∧ (evAt l n).obj < 8) := by
  have := List.all_eq_true.1 hok l[n] (List.getElem_mem _)
  rw [evAt_get l n hn]
  simp only [Ev.ok, Bool.and_eq_true, Bool.or_eq_true, decide_eq_true_eq, Bool.not_eq_true', beq_eq_false_iff_ne] at this
  omega
theorem inv_step (rooms : List Int) (l : List Ev) (n : Nat) (hn : n < l.length) (hok : l.all Ev.ok = true) (s : St) (h : Inv rooms l n s) (hC : clockAt rooms l n = s.clock rooms (evAt l n)) : Inv rooms l (n + 1) (s.step rooms (evAt l n)) := by
  obtain ⟨g0, g8, gob⟩ := ok_g l hok n hn
  have hcs : ∀ x, s.own (evAt l n).g.toNat x ≤ clockAt rooms l n x := fun x => by rw [hC]; exact Nat.le_trans (seen_ge rooms s _ x) (clock_ge rooms s _ x)
  have hlt : ∀ {P : Nat → Prop} {m : Nat}, (m < n + 1 ∧ P m) ↔ (m < n ∧ P m) ∨ (m = n ∧ P n) := by
    intro P m
    constructor
    · rintro ⟨h1, h2⟩
      by_cases e : m = n
      · subst e; exact .inr ⟨rfl, h2⟩
      · exact .inl ⟨by omega, h2⟩
    · rintro (⟨h1, h2⟩ | ⟨rfl, h2⟩)
      · exact ⟨by omega, h2⟩
      · exact ⟨by omega, h2⟩
  have base : ∀ g : Nat, g < 8 → Rep rooms l (fun m => (m < n ∧ feedB rooms l m g = true) ∨ (m = n ∧ (evAt l n).g = g)) (upd s.own (evAt l n).g.toNat (clockAt rooms l n) g) := by
    intro g hg
    by_cases e : g = (evAt l n).g.toNat
    · have h1 : upd s.own (evAt l n).g.toNat (clockAt rooms l n) g = clockAt rooms l n := by unfold upd; rw [if_pos e]
      rw [h1]
      refine ((h.own g hg).top n (by rw [e]; exact hcs)).congr fun m => ?_
      have : (evAt l n).g = (g : Int) := by omega
      simp [this]
    · have h1 : upd s.own (evAt l n).g.toNat (clockAt rooms l n) g = s.own g := by unfold upd; rw [if_neg e]
      rw [h1]
      refine (h.own g hg).congr fun m => ?_
      have : ¬ (evAt l n).g = (g : Int) := by omega
      simp [this]
  have hfeed : ∀ g : Int, feedB rooms l n g = true ↔ (evAt l n).g = g ∨ ((evAt l n).kd = 10 ∧ (evAt l n).obj = g) ∨ backB rooms l n g = true := by
    intro g; unfold feedB; simp only [Bool.or_eq_true, Bool.and_eq_true, decide_eq_true_eq, or_assoc]
  have plain : ((evAt l n).kd ≠ 10) → (∀ g, backB rooms l n g = false) → ∀ g : Nat, g < 8 → Rep rooms l (fun m => m < n + 1 ∧ feedB rooms l m g = true) (upd s.own (evAt l n).g.toNat (clockAt rooms l n) g) := by
    intro h1 h2 g hg
    refine (base g hg).congr fun m => ?_
    rw [hlt (P := fun m => feedB rooms l m g = true), hfeed, h2]
    simp [h1]
  have nob : (evAt l n).kd ≠ 6 → ∀ g, backB rooms l n g = false := by
    intro h6 g
    cases hb : backB rooms l n g
    · rfl
    · exact absurd ((back_iff rooms l n (by omega) g).1 hb).1 h6
  have selS : ∀ (kd c : Int), (sel kd c l (n + 1)).map (clockAt rooms l) = (sel kd c l n).map (clockAt rooms l) ++ (if (evAt l n).kd = kd ∧ (evAt l n).obj = c then [s.clock rooms (evAt l n)] else []) := by
    intro kd c; rw [sel_succ, List.map_append]; congr 1; split
    · rw [← hC]; rfl
    · rfl
  have selF : ∀ (kd c : Int), ((sel kd c l (n + 1)).map fun k => (evAt l k).g.toNat) = ((sel kd c l n).map fun k => (evAt l k).g.toNat) ++ (if (evAt l n).kd = kd ∧ (evAt l n).obj = c then [(evAt l n).g.toNat] else []) := by
    intro kd c; rw [sel_succ, List.map_append]; congr 1; split <;> rfl
  have hfr5 := h.frm (evAt l n).obj
  have hgl : (evAt l n).kd = 6 → ((s.pp (evAt l n).obj).got).length = whichP l n := by
    intro e; rw [h.got, List.length_map]; unfold whichP; rw [e]
  obtain ⟨e, he⟩ : ∃ e, evAt l n = e := ⟨_, rfl⟩
  have hbk := back_iff rooms l n (by omega)
  rw [he] at hcs base hfeed plain nob selS selF hfr5 hgl hbk gob g0 g8 hC ⊢
  rw [hC] at base plain
  have pipe0 : ∀ s' : St, s'.pipe = s.pipe → e.kd ≠ 5 → e.kd ≠ 6 → (∀ c, (s'.pp c).sent = (sel 5 c l (n + 1)).map (clockAt rooms l)) ∧ (∀ c, (s'.pp c).got = (sel 6 c l (n + 1)).map (clockAt rooms l)) ∧ (∀ c, (s'.pp c).frm = (sel 5 c l (n + 1)).map fun k => (evAt l k).g.toNat) := by
    intro s' hs h5 h6
    have hp : ∀ c, s'.pp c = s.pp c := fun c => by unfold St.pp; rw [hs]
    refine ⟨fun c => ?_, fun c => ?_, fun c => ?_⟩
    · rw [hp, selS, if_neg (fun e => h5 e.1), List.append_nil]; exact h.sent c
    · rw [hp, selS, if_neg (fun e => h6 e.1), List.append_nil]; exact h.got c
    · rw [hp, selF, if_neg (fun e => h5 e.1), List.append_nil]; exact h.frm c
  have mut0 : e.kd ≠ 4 → ∀ c, Rep rooms l (fun m => m < n + 1 ∧ (evAt l m).kd = 4 ∧ (evAt l m).obj = c) (s.mut_ c) := by
    intro h4 c
    refine (h.mut_ c).congr fun m => ?_
    rw [hlt (P := fun m => (evAt l m).kd = 4 ∧ (evAt l m).obj = c), he]
    simp [h4]
  have atm0 : atmB e.kd = false → ∀ c, Rep rooms l (fun m => m < n + 1 ∧ atmB (evAt l m).kd = true ∧ (evAt l m).obj = c) (s.atm c) := by
    intro h4 c
    refine (h.atm c).congr fun m => ?_
    rw [hlt (P := fun m => atmB (evAt l m).kd = true ∧ (evAt l m).obj = c), he]
    simp [h4]
  have noat : ¬ (e.kd = 7 ∨ e.kd = 8 ∨ e.kd = 9) → atmB e.kd = false := fun h7 => by
    cases hb : atmB e.kd
    · rfl
    · exact absurd (by simpa [atmB, or_assoc] using hb) h7
  unfold St.step
  simp only []
  split
  · next h4 =>
    obtain ⟨p1, p2, p3⟩ := pipe0 { s with own := upd s.own e.g.toNat (s.clock rooms e), mut_ := updI s.mut_ e.obj (join (s.mut_ e.obj) (s.clock rooms e)) } rfl (by omega) (by omega)
    refine ⟨plain (by omega) (nob (by omega)), fun c => ?_, atm0 (noat (by omega)), p1, p2, p3⟩
    by_cases hc : c = e.obj
    · have h1 : updI s.mut_ e.obj (join (s.mut_ e.obj) (s.clock rooms e)) c = join (s.mut_ e.obj) (s.clock rooms e) := by unfold updI; rw [if_pos hc]
      show Rep rooms l _ (updI s.mut_ e.obj (join (s.mut_ e.obj) (s.clock rooms e)) c)
      rw [h1, hc, ← hC]
      refine ((h.mut_ e.obj).join (Rep.one n)).congr fun m => ?_
      rw [hlt (P := fun m => (evAt l m).kd = 4 ∧ (evAt l m).obj = e.obj), he]
      simp [h4]
    · have h1 : updI s.mut_ e.obj (join (s.mut_ e.obj) (s.clock rooms e)) c = s.mut_ c := by unfold updI; rw [if_neg hc]
      show Rep rooms l _ (updI s.mut_ e.obj (join (s.mut_ e.obj) (s.clock rooms e)) c)
      rw [h1]
      refine (h.mut_ c).congr fun m => ?_
      rw [hlt (P := fun m => (evAt l m).kd = 4 ∧ (evAt l m).obj = c), he]
      have hne : ¬ e.obj = c := fun h => hc h.symm
      simp [hne]
  · next h4 =>
    split
    · next h7 =>
      obtain ⟨p1, p2, p3⟩ := pipe0 { s with own := upd s.own e.g.toNat (s.clock rooms e), atm := updI s.atm e.obj (s.clock rooms e) } rfl (by omega) (by omega)
      refine ⟨plain (by omega) (nob (by omega)), mut0 h4, fun c => ?_, p1, p2, p3⟩
      have ha : atmB e.kd = true := by simpa [atmB, or_assoc] using h7
      show Rep rooms l _ (updI s.atm e.obj (s.clock rooms e) c)
      by_cases hc : c = e.obj
      · have h1 : updI s.atm e.obj (s.clock rooms e) c = s.clock rooms e := by unfold updI; rw [if_pos hc]
        have h2 : ∀ x, s.atm e.obj x ≤ clockAt rooms l n x := fun x => by
          rw [hC]
          refine Nat.le_trans ?_ (clock_ge rooms s e x)
          unfold St.seen
          rw [if_neg (by omega), if_pos h7]
          exact Nat.le_max_right _ _
        rw [h1, hc, ← hC]
        refine ((h.atm e.obj).top n h2).congr fun m => ?_
        rw [hlt (P := fun m => atmB (evAt l m).kd = true ∧ (evAt l m).obj = e.obj), he]
        simp [ha]
      · have h1 : updI s.atm e.obj (s.clock rooms e) c = s.atm c := by unfold updI; rw [if_neg hc]
        rw [h1]
        refine (h.atm c).congr fun m => ?_
        rw [hlt (P := fun m => atmB (evAt l m).kd = true ∧ (evAt l m).obj = c), he]
        have hne : ¬ e.obj = c := fun h => hc h.symm
        simp [hne]
    · next h7 =>
      have ha := noat h7
      split
      · next h10 =>
        obtain ⟨p1, p2, p3⟩ := pipe0 { s with own := upd (upd s.own e.g.toNat (s.clock rooms e)) e.obj.toNat (join (upd s.own e.g.toNat (s.clock rooms e) e.obj.toNat) (s.clock rooms e)) } rfl (by omega) (by omega)
        refine ⟨fun g hg => ?_, mut0 h4, atm0 ha, p1, p2, p3⟩
        have hb := nob (by omega)
        have hgo := gob h10
        show Rep rooms l _ (upd (upd s.own e.g.toNat (s.clock rooms e)) e.obj.toNat (join (upd s.own e.g.toNat (s.clock rooms e) e.obj.toNat) (s.clock rooms e)) g)
        by_cases hx : g = e.obj.toNat
        · have h1 : upd (upd s.own e.g.toNat (s.clock rooms e)) e.obj.toNat (join (upd s.own e.g.toNat (s.clock rooms e) e.obj.toNat) (s.clock rooms e)) g = join (upd s.own e.g.toNat (s.clock rooms e) g) (s.clock rooms e) := by unfold upd; rw [if_pos hx, ← hx]
          rw [h1]
          have h2 := (base g hg).join (Rep.one (rooms := rooms) (l := l) n)
          rw [hC] at h2
          refine h2.congr fun m => ?_
          have h3 : e.obj = (g : Int) := by omega
          rw [hlt (P := fun m => feedB rooms l m g = true), hfeed, hb]
          simp only [h10, h3, and_self, or_true, true_or, and_true]
          constructor
          · rintro ((h | h) | h)
            · exact .inl h
            · exact .inr h.1
            · exact .inr h
          · rintro (h | h)
            · exact .inl (.inl h)
            · exact .inr h
        · have h1 : upd (upd s.own e.g.toNat (s.clock rooms e)) e.obj.toNat (join (upd s.own e.g.toNat (s.clock rooms e) e.obj.toNat) (s.clock rooms e)) g = upd s.own e.g.toNat (s.clock rooms e) g := by
            have : ∀ (f : Nat → Nat → Nat) (v : Nat → Nat), upd f e.obj.toNat v g = f g := fun f v => by unfold upd; rw [if_neg hx]
            rw [this]
          rw [h1]
          refine (base g hg).congr fun m => ?_
          have h3 : ¬ e.obj = (g : Int) := by omega
          rw [hlt (P := fun m => feedB rooms l m g = true), hfeed, hb]
          simp [h3]
      · next h10 =>
        split
        · next h5 =>
          have pp5 : ∀ c, St.pp { s with own := upd s.own e.g.toNat (s.clock rooms e), pipe := updI s.pipe e.obj (some ⟨(s.pp e.obj).sent ++ [s.clock rooms e], (s.pp e.obj).got, (s.pp e.obj).frm ++ [e.g.toNat]⟩) } c = if c = e.obj then ⟨(s.pp e.obj).sent ++ [s.clock rooms e], (s.pp e.obj).got, (s.pp e.obj).frm ++ [e.g.toNat]⟩ else s.pp c := by
            intro c
            unfold St.pp updI
            by_cases hc : c = e.obj
            · simp [hc]
            · simp [hc]
          refine ⟨plain (by omega) (nob (by omega)), mut0 h4, atm0 ha, fun c => ?_, fun c => ?_, fun c => ?_⟩
          · rw [pp5, selS]
            by_cases hc : c = e.obj
            · rw [if_pos hc, if_pos ⟨h5, hc.symm⟩, hc]; simp only []; rw [h.sent]
            · rw [if_neg hc, if_neg (fun e => hc e.2.symm), List.append_nil]; exact h.sent c
          · rw [pp5, selS, if_neg (show ¬ (e.kd = 6 ∧ e.obj = c) from fun h => by have := h.1; omega), List.append_nil]
            by_cases hc : c = e.obj
            · rw [if_pos hc, hc]; exact h.got _
            · rw [if_neg hc]; exact h.got c
          · rw [pp5, selF]
            by_cases hc : c = e.obj
            · rw [if_pos hc, if_pos ⟨h5, hc.symm⟩, hc]; simp only []; rw [h.frm]
            · rw [if_neg hc, if_neg (fun e => hc e.2.symm), List.append_nil]; exact h.frm c
        · next h5 =>
          split
          · next h6 =>
            have pp6 : ∀ (o : Nat → Nat → Nat) (c : Int), St.pp { s with own := o, pipe := updI s.pipe e.obj (some ⟨(s.pp e.obj).sent, (s.pp e.obj).got ++ [s.clock rooms e], (s.pp e.obj).frm⟩) } c = if c = e.obj then ⟨(s.pp e.obj).sent, (s.pp e.obj).got ++ [s.clock rooms e], (s.pp e.obj).frm⟩ else s.pp c := by
              intro o c
              unfold St.pp updI
              by_cases hc : c = e.obj
              · simp [hc]
              · simp [hc]
            refine ⟨fun g hg => ?_, mut0 h4, atm0 ha, fun c => ?_, fun c => ?_, fun c => ?_⟩
            · simp only []
              rw [hgl h6, hfr5, List.length_map]
              split
              · next hc =>
                obtain ⟨s0, hs0⟩ : ∃ s0, (sel 5 e.obj l n)[whichP l n]? = some s0 := ⟨_, List.getElem?_eq_getElem hc.2⟩
                have hs1 := ((sel_get _ _ _ _ _ _).1 hs0).1
                have hgs := ok_g l hok s0 (by omega)
                have ht : ((sel 5 e.obj l n).map fun k => (evAt l k).g.toNat).getD (whichP l n) 0 = (evAt l s0).g.toNat := by
                  rw [List.getD_eq_getElem?_getD, List.getElem?_map, hs0]; rfl
                rw [ht]
                have hbk' : ∀ g : Int, backB rooms l n g = true ↔ (evAt l s0).g = g := by
                  intro g
                  rw [hbk]
                  constructor
                  · rintro ⟨_, _, s1, h1, h2⟩
                    rw [hs0] at h1
                    rw [Option.some.inj h1]; exact h2
                  · intro h1; exact ⟨h6, hc.1, s0, hs0, h1⟩
                by_cases hx : g = (evAt l s0).g.toNat
                · have h1 : upd (upd s.own e.g.toNat (s.clock rooms e)) (evAt l s0).g.toNat (join (upd s.own e.g.toNat (s.clock rooms e) (evAt l s0).g.toNat) (s.clock rooms e)) g = join (upd s.own e.g.toNat (s.clock rooms e) g) (s.clock rooms e) := by unfold upd; rw [if_pos hx, ← hx]
                  rw [h1]
                  have h2 := (base g hg).join (Rep.one (rooms := rooms) (l := l) n)
                  rw [hC] at h2
                  refine h2.congr fun m => ?_
                  have h3 : (evAt l s0).g = (g : Int) := by omega
                  rw [hlt (P := fun m => feedB rooms l m g = true), hfeed, hbk']
                  simp only [h3, or_true, true_or, and_true]
                  constructor
                  · rintro ((h | h) | h)
                    · exact .inl h
                    · exact .inr h.1
                    · exact .inr h
                  · rintro (h | h)
                    · exact .inl (.inl h)
                    · exact .inr h
                · have h1 : upd (upd s.own e.g.toNat (s.clock rooms e)) (evAt l s0).g.toNat (join (upd s.own e.g.toNat (s.clock rooms e) (evAt l s0).g.toNat) (s.clock rooms e)) g = upd s.own e.g.toNat (s.clock rooms e) g := by
                    have : ∀ (f : Nat → Nat → Nat) (v : Nat → Nat), upd f (evAt l s0).g.toNat v g = f g := fun f v => by unfold upd; rw [if_neg hx]
                    rw [this]
                  rw [h1]
                  refine (base g hg).congr fun m => ?_
                  have h3 : ¬ (evAt l s0).g = (g : Int) := by omega
                  rw [hlt (P := fun m => feedB rooms l m g = true), hfeed, hbk']
                  simp [h3, h10]
              · next hc =>
                refine plain h10 (fun g => ?_) g hg
                cases hb : backB rooms l n g
                · rfl
                · obtain ⟨_, h1, s0, h2, _⟩ := (hbk g).1 hb
                  exfalso
                  apply hc
                  refine ⟨h1, ?_⟩
                  rcases Nat.lt_or_ge (whichP l n) (sel 5 e.obj l n).length with h6 | h6
                  · exact h6
                  · rw [List.getElem?_eq_none h6] at h2; cases h2
            · rw [pp6, selS, if_neg (show ¬ (e.kd = 5 ∧ e.obj = c) from fun h => by have := h.1; omega), List.append_nil]
              by_cases hc : c = e.obj
              · rw [if_pos hc, hc]; exact h.sent _
              · rw [if_neg hc]; exact h.sent c
            · rw [pp6, selS]
              by_cases hc : c = e.obj
              · rw [if_pos hc, if_pos ⟨h6, hc.symm⟩, hc]; simp only []; rw [h.got]
              · rw [if_neg hc, if_neg (fun e => hc e.2.symm), List.append_nil]; exact h.got c
            · rw [pp6, selF, if_neg (show ¬ (e.kd = 5 ∧ e.obj = c) from fun h => by have := h.1; omega), List.append_nil]
              by_cases hc : c = e.obj
              · rw [if_pos hc, hc]; exact h.frm _
              · rw [if_neg hc]; exact h.frm c
          · next h6 =>
            obtain ⟨p1, p2, p3⟩ := pipe0 { s with own := upd s.own e.g.toNat (s.clock rooms e) } rfl h5 h6
            exact ⟨plain h10 (nob h6), mut0 h4, atm0 ha, p1, p2, p3⟩
theorem inv_run (rooms : List Int) (l : List Ev) (hok : l.all Ev.ok = true) (n : Nat) (hn : n ≤ l.length) : Inv rooms l n (St.run rooms (l.take n)) := by
  induction n with
  | zero =>
    refine ⟨fun g _ => Rep.none fun m h => by omega, fun c => Rep.none fun m h => by omega, fun c => Rep.none fun m h => by omega, fun c => rfl, fun c => rfl, fun c => rfl⟩
  | succ n ih =>
    rw [run_take rooms l n (by omega), ← evAt_get l n (by omega)]
    exact inv_step rooms l n (by omega) hok _ (ih (by omega)) (by rw [clockAt_at rooms l n (by omega), evAt_get l n (by omega)])
/-- what happens before an event is what is directly ahead of it, and what happens before such. -/
theorem ahead_iff (rooms : List Int) (l : List Ev) (hok : l.all Ev.ok = true) (i j : Nat) (hij : i < j) (hj : j < l.length) :
    aheadB rooms l i j = true ↔ ∃ m, m < j ∧ directB rooms l m j = true ∧ (i = m ∨ (i < m ∧ aheadB rooms l i m = true)) := by
  have hr := seen_rep rooms l j hj hok _ (inv_run rooms l hok j (by omega))
  have hcl := clockAt_at rooms l j hj
  rw [← evAt_get l j hj] at hcl
  obtain ⟨s, hs⟩ : ∃ s, St.run rooms (l.take j) = s := ⟨_, rfl⟩
  rw [hs] at hr hcl
  have hge : ∀ m, m < j → directB rooms l m j = true → ∀ x, clockAt rooms l m x ≤ clockAt rooms l j x := fun m hm hd x => by
    rw [hcl]; exact Nat.le_trans (hr.ge m ⟨hm, hd⟩ x) (clock_ge rooms s _ x)
  have hNi : ownN rooms l i = clockAt rooms l i (evAt l i).g.toNat := rfl
  constructor
  · intro h
    unfold aheadB at h
    rw [decide_eq_true_eq, ← hNi] at h
    have hN := ownN_eq rooms l i (by omega)
    by_cases hg : (evAt l i).g.toNat = (evAt l j).g.toNat
    · refine ⟨i, hij, ?_, .inl rfl⟩
      have h1 := ok_g l hok i (by omega)
      have h2 := ok_g l hok j (by omega)
      have : (evAt l i).g = (evAt l j).g := by omega
      unfold directB feedB
      simp [this]
    · have h1 : clockAt rooms l j (evAt l i).g.toNat = s.seen rooms (evAt l j) (evAt l i).g.toNat := by
        rw [hcl]
        unfold St.clock join single
        rw [if_neg hg]
        exact Nat.max_eq_left (Nat.zero_le _)
      rw [h1] at h
      rcases hr.is (evAt l i).g.toNat with h2 | ⟨m, ⟨hm, hd⟩, h2⟩
      · omega
      · rw [h2] at h
        refine ⟨m, hm, hd, ?_⟩
        have hcm : clockAt rooms l m (evAt l i).g.toNat ≤ cnt l (m + 1) (evAt l i).g.toNat := by
          have h3 := (counts rooms l (m + 1) (by omega)).1.own (evAt l m).g.toNat (evAt l i).g.toNat
          refine Nat.le_trans ?_ h3
          rw [run_take rooms l m (by omega)]
          refine Nat.le_trans ?_ (step_own_ge rooms _ l[m] (evAt l m).g.toNat (evAt l i).g.toNat)
          rw [evAt_get l m (by omega)]
          unfold upd
          rw [if_pos rfl, clockAt_at rooms l m (by omega)]
          exact Nat.le_refl _
        rcases Nat.lt_trichotomy i m with h3 | h3 | h3
        · refine .inr ⟨h3, ?_⟩
          unfold aheadB
          rw [decide_eq_true_eq, ← hNi]
          exact h
        · exact .inl h3
        · have := cnt_mono l (evAt l i).g.toNat (m + 1) i (by omega) (by omega)
          omega
  · rintro ⟨m, hm, hd, h⟩
    unfold aheadB
    rw [decide_eq_true_eq]
    refine Nat.le_trans ?_ (hge m hm hd _)
    rcases h with rfl | ⟨_, h⟩
    · exact Nat.le_refl _
    · unfold aheadB at h
      rw [decide_eq_true_eq] at h
      exact h
end Go.Proofs.Ord
