/-
  The watcher, plainly: what goroutines, mutexes, atomics and channels have seen, and what an event makes of it. No program in sight.
-/
import Derived.Test.YtalihehmbiohlaaDoorOrdE
namespace Go.Proofs.Ord

/-- a channel: the clocks of its sends and receives, and who sent. -/
structure Pipe where
  sent : List (Nat → Nat)
  got : List (Nat → Nat)
  frm : List Nat
def Pipe.new : Pipe := ⟨[], [], []⟩
/-- what the watcher has seen. -/
structure St where
  own : Nat → Nat → Nat
  mut_ : Int → Nat → Nat
  atm : Int → Nat → Nat
  pipe : Int → Option Pipe
def St.new : St := ⟨fun _ _ => 0, fun _ _ => 0, fun _ _ => 0, fun _ => none⟩
def upd {α : Type} (f : Nat → α) (k : Nat) (v : α) : Nat → α := fun j => if j = k then v else f j
def updI {α : Type} (f : Int → α) (k : Int) (v : α) : Int → α := fun j => if j = k then v else f j
/-- a channel's room. -/
def roomOf (rooms : List Int) (c : Int) : Nat := if c < 0 then 0 else (rooms.getD c.toNat 0).toNat
def nth (l : List (Nat → Nat)) (k : Nat) : Nat → Nat := l.getD k (fun _ => 0)
def St.pp (s : St) (c : Int) : Pipe := (s.pipe c).getD Pipe.new
/-- the clock ahead of the event's own count. -/
def St.seen (rooms : List Int) (s : St) (e : Ev) : Nat → Nat :=
  let c := s.own e.g.toNat
  if e.kd = 3 then join c (s.mut_ e.obj)
  else if e.kd = 7 ∨ e.kd = 8 ∨ e.kd = 9 then join c (s.atm e.obj)
  else if e.kd = 5 then
    if 0 < roomOf rooms e.obj ∧ roomOf rooms e.obj ≤ (s.pp e.obj).sent.length ∧ (s.pp e.obj).sent.length - roomOf rooms e.obj < (s.pp e.obj).got.length
    then join c (nth (s.pp e.obj).got ((s.pp e.obj).sent.length - roomOf rooms e.obj)) else c
  else if e.kd = 6 then
    if (s.pp e.obj).got.length < (s.pp e.obj).sent.length then join c (nth (s.pp e.obj).sent (s.pp e.obj).got.length) else c
  else c
/-- the event's clock. -/
def St.clock (rooms : List Int) (s : St) (e : Ev) : Nat → Nat :=
  join (s.seen rooms e) (single e.g.toNat (s.seen rooms e e.g.toNat + 1))
/-- what the watcher has seen behind the event. -/
def St.step (rooms : List Int) (s : St) (e : Ev) : St :=
  let c := s.clock rooms e
  let o := upd s.own e.g.toNat c
  if e.kd = 4 then { s with own := o, mut_ := updI s.mut_ e.obj (join (s.mut_ e.obj) c) }
  else if e.kd = 7 ∨ e.kd = 8 ∨ e.kd = 9 then { s with own := o, atm := updI s.atm e.obj c }
  else if e.kd = 10 then { s with own := upd o e.obj.toNat (join (o e.obj.toNat) c) }
  else if e.kd = 5 then { s with own := o, pipe := updI s.pipe e.obj (some ⟨(s.pp e.obj).sent ++ [c], (s.pp e.obj).got, (s.pp e.obj).frm ++ [e.g.toNat]⟩) }
  else if e.kd = 6 then
    { s with
      own := if roomOf rooms e.obj = 0 ∧ (s.pp e.obj).got.length < (s.pp e.obj).frm.length then upd o ((s.pp e.obj).frm.getD (s.pp e.obj).got.length 0) (join (o ((s.pp e.obj).frm.getD (s.pp e.obj).got.length 0)) c) else o
      pipe := updI s.pipe e.obj (some ⟨(s.pp e.obj).sent, (s.pp e.obj).got ++ [c], (s.pp e.obj).frm⟩) }
  else { s with own := o }
/-- the watcher behind a trace. -/
def St.run (rooms : List Int) (l : List Ev) : St := l.foldl (St.step rooms) St.new
/-- the clock of the event at a place of a trace. -/
def clockAt (rooms : List Int) (l : List Ev) (i : Nat) : Nat → Nat :=
  match l[i]? with
  | some e => (St.run rooms (l.take i)).clock rooms e
  | none => fun _ => 0
theorem run_take (rooms : List Int) (l : List Ev) (i : Nat) (h : i < l.length) : St.run rooms (l.take (i + 1)) = (St.run rooms (l.take i)).step rooms l[i] := by
  unfold St.run
  rw [List.take_succ_eq_append_getElem h, List.foldl_append]
  rfl

/-- all clocks there are: a property of each. -/
structure St.All (s : St) (q : (Nat → Nat) → Prop) : Prop where
  own : ∀ g, q (s.own g)
  mut_ : ∀ c, q (s.mut_ c)
  atm : ∀ c, q (s.atm c)
  sent : ∀ c p, s.pipe c = some p → ∀ K ∈ p.sent, q K
  got : ∀ c p, s.pipe c = some p → ∀ K ∈ p.got, q K
theorem St.All.new {q : (Nat → Nat) → Prop} (h : q (fun _ => 0)) : St.new.All q := ⟨fun _ => h, fun _ => h, fun _ => h, fun c p e => (by cases e), fun c p e => (by cases e)⟩
theorem nth_of {l : List (Nat → Nat)} {q : (Nat → Nat) → Prop} (h : ∀ K ∈ l, q K) (k : Nat) (hk : k < l.length) : q (nth l k) := by
  unfold nth
  rw [List.getD_eq_getElem?_getD, List.getElem?_eq_getElem hk]
  exact h _ (List.getElem_mem _)
theorem St.All.pp_sent {s : St} {q : (Nat → Nat) → Prop} (h : s.All q) (c : Int) : ∀ K ∈ (s.pp c).sent, q K := by
  unfold St.pp
  cases hp : s.pipe c with
  | none => intro K hK; simp [Pipe.new] at hK
  | some p => exact h.sent c p hp
theorem St.All.pp_got {s : St} {q : (Nat → Nat) → Prop} (h : s.All q) (c : Int) : ∀ K ∈ (s.pp c).got, q K := by
  unfold St.pp
  cases hp : s.pipe c with
  | none => intro K hK; simp [Pipe.new] at hK
  | some p => exact h.got c p hp
/-- what holds of all clocks and is kept by join holds of what is seen. -/
theorem St.All.seen {s : St} {q : (Nat → Nat) → Prop} (h : s.All q) (hj : ∀ K L, q K → q L → q (join K L)) (rooms : List Int) (e : Ev) : q (s.seen rooms e) := by
  unfold St.seen
  simp only []
  repeat' split
  all_goals first
    | exact hj _ _ (h.own _) (h.mut_ _)
    | exact hj _ _ (h.own _) (h.atm _)
    | exact h.own _
    | (exact hj _ _ (h.own _) (nth_of (h.pp_got _) _ (by omega)))
    | (exact hj _ _ (h.own _) (nth_of (h.pp_sent _) _ (by omega)))
theorem upd_all {q : (Nat → Nat) → Prop} {f : Nat → Nat → Nat} {k : Nat} {v : Nat → Nat} (h : ∀ g, q (f g)) (hv : q v) : ∀ g, q (upd f k v g) := by
  intro g; unfold upd; split
  · exact hv
  · exact h g
theorem updI_all {q : (Nat → Nat) → Prop} {f : Int → Nat → Nat} {k : Int} {v : Nat → Nat} (h : ∀ g, q (f g)) (hv : q v) : ∀ g, q (updI f k v g) := by
  intro g; unfold updI; split
  · exact hv
  · exact h g
theorem snoc_all {q : (Nat → Nat) → Prop} {l : List (Nat → Nat)} {v : Nat → Nat} (h : ∀ K ∈ l, q K) (hv : q v) : ∀ K ∈ l ++ [v], q K := by
  intro K hK
  rcases List.mem_append.1 hK with h' | h'
  · exact h K h'
  · rw [List.mem_singleton.1 h']; exact hv
/-- what holds of all clocks, of the event's, and is kept by join holds of all clocks behind the event. -/
theorem St.All.step {s : St} {q : (Nat → Nat) → Prop} (h : s.All q) (hj : ∀ K L, q K → q L → q (join K L)) (rooms : List Int) (e : Ev) (hc : q (s.clock rooms e)) : (s.step rooms e).All q := by
  have ho : ∀ g, q (upd s.own e.g.toNat (s.clock rooms e) g) := upd_all h.own hc
  unfold St.step
  simp only []
  split
  · exact ⟨ho, updI_all h.mut_ (hj _ _ (h.mut_ _) hc), h.atm, h.sent, h.got⟩
  · split
    · exact ⟨ho, h.mut_, updI_all h.atm hc, h.sent, h.got⟩
    · split
      · exact ⟨upd_all ho (hj _ _ (ho _) hc), h.mut_, h.atm, h.sent, h.got⟩
      · split
        · refine ⟨ho, h.mut_, h.atm, fun c p hp => ?_, fun c p hp => ?_⟩
          · simp only [updI] at hp
            split at hp
            · cases hp; exact snoc_all (h.pp_sent _) hc
            · exact h.sent c p hp
          · simp only [updI] at hp
            split at hp
            · cases hp; exact h.pp_got _
            · exact h.got c p hp
        · split
          · refine ⟨?_, h.mut_, h.atm, fun c p hp => ?_, fun c p hp => ?_⟩
            · simp only []
              split
              · exact upd_all ho (hj _ _ (ho _) hc)
              · exact ho
            · simp only [updI] at hp
              split at hp
              · cases hp; exact h.pp_sent _
              · exact h.sent c p hp
            · simp only [updI] at hp
              split at hp
              · cases hp; exact snoc_all (h.pp_got _) hc
              · exact h.got c p hp
          · exact ⟨ho, h.mut_, h.atm, h.sent, h.got⟩
theorem join_le {K L : Nat → Nat} {n : Nat} (hK : ∀ g, K g ≤ n) (hL : ∀ g, L g ≤ n) : ∀ g, join K L g ≤ n := fun g => Nat.max_le.2 ⟨hK g, hL g⟩
theorem clock_le {s : St} {n : Nat} (h : s.All fun K => ∀ g, K g ≤ n) (rooms : List Int) (e : Ev) : ∀ g, s.clock rooms e g ≤ n + 1 := by
  have h1 := h.seen (fun K L hK hL => join_le hK hL) rooms e
  intro g
  unfold St.clock join single
  have := h1 g
  have := h1 e.g.toNat
  split <;> omega
theorem St.All.mono {s : St} {p q : (Nat → Nat) → Prop} (h : s.All p) (hq : ∀ K, p K → q K) : s.All q :=
  ⟨fun g => hq _ (h.own g), fun g => hq _ (h.mut_ g), fun g => hq _ (h.atm g), fun c p hp K hK => hq _ (h.sent c p hp K hK), fun c p hp K hK => hq _ (h.got c p hp K hK)⟩
/-- behind n events no count is above n. -/
theorem run_le (rooms : List Int) (l : List Ev) (i : Nat) (hi : i ≤ l.length) : (St.run rooms (l.take i)).All fun K => ∀ g, K g ≤ i := by
  induction i with
  | zero => exact St.All.new fun _ => Nat.le_refl _
  | succ i ih =>
    have := ih (by omega)
    rw [run_take rooms l i (by omega)]
    exact (this.mono fun K h g => Nat.le_succ_of_le (h g)).step (fun K L hK hL => join_le hK hL) rooms _ (clock_le this rooms _)
end Go.Proofs.Ord
