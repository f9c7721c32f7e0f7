/-
  Reports in plain Lean: which are in form, what their bytes are, what bytes are read as. No program in sight.
-/
import Derived.Test.YtnpneippahdigaaDoorWireP
namespace Go.Proofs.Rp

structure Race where
  pl : Int
  fi : Int
  se : Int
  fw : Bool
  sw : Bool
deriving DecidableEq
structure Rep where
  o : Int
  f : Int
  g : Int
  n : Int
  at_ : Int
  steps : Int
  races : List Race

/-- is an end in form? -/
def endOk (o f g n at_ : Int) : Bool :=
  if o = 3 then decide (1 ≤ f) && decide (f ≤ 7) && (decide (0 ≤ g) && decide (g ≤ 7)) && (decide (0 ≤ at_) && decide (at_ ≤ 8192)) && (decide (n = 0) || decide (f = 7))
  else decide (1 ≤ o) && decide (o ≤ 4) && (decide (f = 0) && decide (g = 0) && decide (n = 0) && decide (at_ = 0))
/-- is a race in form behind a place? -/
def raceOk (last : Int) (x : Race) : Bool := decide (last + 1 ≤ x.pl) && decide (x.pl ≤ 127) && (decide (0 ≤ x.fi) && decide (x.fi ≤ 8192)) && (decide (0 ≤ x.se) && decide (x.se ≤ 8192)) && (x.fw || x.sw)
def lastF : List Race → Int → Int
  | [], a => a
  | x :: l, _ => lastF l x.pl
def lastOf (l : List Race) : Int := lastF l (-1)
/-- are the first races in form? -/
def racesOk : List Race → Int → Bool
  | [], _ => true
  | x :: l, last => raceOk last x && racesOk l x.pl
def headOk (r : Rep) : Bool := endOk r.o r.f r.g r.n r.at_ && (decide (0 ≤ r.steps) && decide (r.steps ≤ 65537)) && decide (r.races.length ≤ 128)
def ok (r : Rep) : Bool := headOk r && racesOk r.races (-1)

theorem lastF_snoc (l : List Race) (x : Race) : ∀ a, lastF (l ++ [x]) a = x.pl := by
  induction l with
  | nil => intro a; rfl
  | cons y l ih => intro a; exact ih y.pl
theorem lastOf_snoc (l : List Race) (x : Race) : lastOf (l ++ [x]) = x.pl := lastF_snoc l x _
theorem racesOk_append (l : List Race) : ∀ (m : List Race) (a : Int), racesOk (l ++ m) a = (racesOk l a && racesOk m (lastF l a)) := by
  induction l with
  | nil => intro m a; simp [racesOk, lastF]
  | cons x l ih =>
    intro m a
    simp only [List.cons_append, racesOk, ih, Bool.and_assoc, lastF]
theorem racesOk_snoc (l : List Race) (x : Race) : racesOk (l ++ [x]) (-1) = (racesOk l (-1) && raceOk (lastOf l) x) := by
  rw [racesOk_append]
  simp only [racesOk, Bool.and_true]
  rfl
theorem racesOk_take (l : List Race) (i : Nat) (h : i < l.length) : racesOk (l.take (i + 1)) (-1) = (racesOk (l.take i) (-1) && raceOk (lastOf (l.take i)) l[i]) := by
  rw [List.take_succ_eq_append_getElem h, racesOk_snoc]
theorem lastF_le (l : List Race) : ∀ a, -1 ≤ a → a ≤ 127 → racesOk l a = true → -1 ≤ lastF l a ∧ lastF l a ≤ 127 := by
  induction l with
  | nil => intro a h1 h2 _; exact ⟨h1, h2⟩
  | cons x l ih =>
    intro a h1 h2 h
    rw [racesOk, Bool.and_eq_true] at h
    have h3 := h.1
    simp only [raceOk, Bool.and_eq_true, decide_eq_true_eq] at h3
    exact ih x.pl (by omega) (by omega) h.2
/-- where the races are in form, the last place is one. -/
theorem lastOf_le (l : List Race) (h : racesOk l (-1) = true) : -1 ≤ lastOf l ∧ lastOf l ≤ 127 := by
  exact lastF_le l (-1) (by decide) (by decide) h

/-- a number as so many bytes. -/
def num (u : Nat) : Nat → List Nat
  | 0 => []
  | k + 1 => (u / 256 ^ k % 256) :: num u k
theorem num_length (u k : Nat) : (num u k).length = k := by induction k with | zero => rfl | succ k ih => simp [num, ih]
theorem num_lt (u k : Nat) : ∀ x ∈ num u k, x < 256 := by
  induction k with
  | zero => intro x hx; cases hx
  | succ k ih =>
    intro x hx
    rcases List.mem_cons.1 hx with rfl | hx
    · exact Nat.mod_lt _ (by decide)
    · exact ih x hx
def nums (k : Nat) (l : List Int) : List Nat := l.flatMap fun n => num (Wr.u64 n) k
/-- a race's bytes. -/
def flags (x : Race) : Int := (if x.fw then 1 else 0) + (if x.sw then 2 else 0)
def raceBytes (x : Race) : List Nat := num (Wr.u64 x.pl) 2 ++ (num (Wr.u64 x.fi) 4 ++ (num (Wr.u64 x.se) 4 ++ num (Wr.u64 (flags x)) 1))
def headBytes (r : Rep) : List Nat := nums 1 [r.o, r.f, r.g] ++ nums 8 [r.n] ++ nums 4 [r.at_, r.steps] ++ nums 2 [(r.races.length : Nat)]
def bytes (r : Rep) : List Nat := headBytes r ++ r.races.flatMap raceBytes
theorem raceBytes_length (x : Race) : (raceBytes x).length = 11 := by simp [raceBytes, num_length]
theorem headBytes_length (r : Rep) : (headBytes r).length = 21 := by simp [headBytes, nums, num_length]
theorem races_length (l : List Race) : (l.flatMap raceBytes).length = 11 * l.length := by
  induction l with
  | nil => rfl
  | cons x l ih => simp only [List.flatMap_cons, List.length_append, raceBytes_length, ih, List.length_cons]; omega
theorem bytes_length (r : Rep) : (bytes r).length = 21 + 11 * r.races.length := by rw [bytes, List.length_append, headBytes_length, races_length]
end Go.Proofs.Rp
