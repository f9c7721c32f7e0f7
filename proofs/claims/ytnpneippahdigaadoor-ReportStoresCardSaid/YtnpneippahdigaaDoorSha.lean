/-
  SHA-256 as plain functions on numbers and lists: what the digest's Go computes, in Lean's own words. No program in sight.
-/
namespace Go.Proofs.Sha

def M : Nat := 4294967296
/-- a word turned right by n places. -/
def rr (x n : Nat) : Nat := (x * 2 ^ (32 - n) % M) ||| (x / 2 ^ n)
def ss0 (x : Nat) : Nat := rr x 7 ^^^ rr x 18 ^^^ x / 8
def ss1 (x : Nat) : Nat := rr x 17 ^^^ rr x 19 ^^^ x / 1024
def bs1 (e : Nat) : Nat := rr e 6 ^^^ rr e 11 ^^^ rr e 25
def bs0 (a : Nat) : Nat := rr a 2 ^^^ rr a 13 ^^^ rr a 22
def ch (e f g : Nat) : Nat := (e &&& f) ^^^ ((4294967295 - e) &&& g)
def maj (a b c : Nat) : Nat := (a &&& b) ^^^ (a &&& c) ^^^ (b &&& c)

def turns : List Nat := [
  1116352408, 1899447441, 3049323471, 3921009573, 961987163, 1508970993, 2453635748, 2870763221,
  3624381080, 310598401, 607225278, 1426881987, 1925078388, 2162078206, 2614888103, 3248222580,
  3835390401, 4022224774, 264347078, 604807628, 770255983, 1249150122, 1555081692, 1996064986,
  2554220882, 2821834349, 2952996808, 3210313671, 3336571891, 3584528711, 113926993, 338241895,
  666307205, 773529912, 1294757372, 1396182291, 1695183700, 1986661051, 2177026350, 2456956037,
  2730485921, 2820302411, 3259730800, 3345764771, 3516065817, 3600352804, 4094571909, 275423344,
  430227734, 506948616, 659060556, 883997877, 958139571, 1322822218, 1537002063, 1747873779,
  1955562222, 2024104815, 2227730452, 2361852424, 2428436474, 2756734187, 3204031479, 3329325298]

def start : List Nat := [1779033703, 3144134277, 1013904242, 2773480762, 1359893119, 2600822924, 528734635, 1541459225]

/-- the word of four bytes of a block, built byte by byte: k bytes so far. -/
def wordTo (b : List Nat) (t : Nat) : Nat → Nat
  | 0 => 0
  | k + 1 => (wordTo b t k * 256 % M) ||| b.getD (4 * t + k) 0
/-- the first t words of a block, zeros behind. -/
def load (b : List Nat) : Nat → List Nat
  | 0 => List.replicate 64 0
  | t + 1 => (load b t).set t (wordTo b t 4)
/-- t of the words that are made of earlier ones. -/
def more (w : List Nat) : Nat → List Nat
  | 0 => w
  | t + 1 => (more w t).set (16 + t) (((more w t).getD t 0 + (more w t).getD (9 + t) 0 + ss0 ((more w t).getD (1 + t) 0) + ss1 ((more w t).getD (14 + t) 0)) % M)
def sched (b : List Nat) : List Nat := more (load b 16) 48

structure V8 where
  a : Nat
  b : Nat
  c : Nat
  d : Nat
  e : Nat
  f : Nat
  g : Nat
  h : Nat
  deriving DecidableEq

def V8.ok (v : V8) : Prop := v.a < M ∧ v.b < M ∧ v.c < M ∧ v.d < M ∧ v.e < M ∧ v.f < M ∧ v.g < M ∧ v.h < M
def t1 (v : V8) (k w : Nat) : Nat := (v.h + bs1 v.e + ch v.e v.f v.g + k + w) % M
def t2 (v : V8) : Nat := (bs0 v.a + maj v.a v.b v.c) % M
def turn (v : V8) (k w : Nat) : V8 := ⟨(t1 v k w + t2 v) % M, v.a, v.b, v.c, (v.d + t1 v k w) % M, v.e, v.f, v.g⟩
def rounds (w : List Nat) (v : V8) : Nat → V8
  | 0 => v
  | t + 1 => turn (rounds w v t) (turns.getD t 0) (w.getD t 0)
def V8.list (v : V8) : List Nat := [v.a, v.b, v.c, v.d, v.e, v.f, v.g, v.h]
def ofList (l : List Nat) : V8 := ⟨l.getD 0 0, l.getD 1 0, l.getD 2 0, l.getD 3 0, l.getD 4 0, l.getD 5 0, l.getD 6 0, l.getD 7 0⟩
/-- i of the eight sums. -/
def addTo (l x : List Nat) : Nat → List Nat
  | 0 => l
  | i + 1 => (addTo l x i).set i (((addTo l x i).getD i 0 + x.getD i 0) % M)
def mix (l b : List Nat) : List Nat := addTo l (rounds (sched b) (ofList l) 64).list 8

/-- a digest while it is made: its words, its block, how many bytes it took. -/
structure St where
  ws : List Nat
  left : List Nat
  n : Nat
  deriving DecidableEq
def St.new : St := ⟨start, List.replicate 64 0, 0⟩
def St.put (s : St) (x : Nat) : St := ⟨if s.n % 64 = 63 then mix s.ws (s.left.set (s.n % 64) x) else s.ws, s.left.set (s.n % 64) x, s.n + 1⟩
def St.take (s : St) (xs : List Nat) : St := xs.foldl St.put s
/-- zeros, till the block has room for eight bytes just. -/
def St.zeros : Nat → St → St
  | 0, s => s
  | f + 1, s => if s.n % 64 = 56 then s else zeros f (s.put 0)
/-- the eight bytes of a number, the greatest first. -/
def be8 (n : Nat) : List Nat := [n / 2 ^ 56 % 256, n / 2 ^ 48 % 256, n / 2 ^ 40 % 256, n / 2 ^ 32 % 256, n / 2 ^ 24 % 256, n / 2 ^ 16 % 256, n / 2 ^ 8 % 256, n % 256]
def be4 (w : Nat) : List Nat := [w / 2 ^ 24 % 256, w / 2 ^ 16 % 256, w / 2 ^ 8 % 256, w % 256]
def St.padded (s : St) : St := ((St.zeros 64 (s.put 128)).take (be8 (8 * s.n)))
def St.sum (s : St) : List Nat := s.padded.ws.flatMap be4
/-- the digest of bytes. -/
def of (xs : List Nat) : List Nat := (St.new.take xs).sum
def pad (key : List Nat) : List Nat := let k := if key.length > 64 then of key else key; k ++ List.replicate (64 - k.length) 0
def inner (key : List Nat) : St := St.new.take ((pad key).map (· ^^^ 54))
def outer (key : List Nat) : St := St.new.take ((pad key).map (· ^^^ 92))
def tag (key xs : List Nat) : List Nat := ((outer key).take ((inner key).take xs).sum).sum

theorem take_append (s : St) (xs ys : List Nat) : s.take (xs ++ ys) = (s.take xs).take ys := by simp [St.take]
theorem take_cons (s : St) (x : Nat) (xs : List Nat) : s.take (x :: xs) = (s.put x).take xs := rfl
theorem take_n (s : St) (xs : List Nat) : (s.take xs).n = s.n + xs.length := by
  induction xs generalizing s with
  | nil => rfl
  | cons x xs ih => rw [take_cons, ih]; simp only [St.put, List.length_cons]; omega

/-- bytes that end at most at the block's end: taken at once. -/
theorem take_chunk (s : St) (hl : s.left.length = 64) (xs : List Nat) : 0 < xs.length → s.n % 64 + xs.length ≤ 64 →
    s.take xs = ⟨if s.n % 64 + xs.length = 64 then mix s.ws (s.left.take (s.n % 64) ++ (xs ++ s.left.drop (s.n % 64 + xs.length))) else s.ws, s.left.take (s.n % 64) ++ (xs ++ s.left.drop (s.n % 64 + xs.length)), s.n + xs.length⟩ := by
  induction xs generalizing s with
  | nil => intro h; simp at h
  | cons x xs ih =>
    intro _ h
    simp only [List.length_cons] at h
    have hat : s.n % 64 < 64 := Nat.mod_lt _ (by decide)
    rw [take_cons]
    have eset : s.left.set (s.n % 64) x = s.left.take (s.n % 64) ++ x :: s.left.drop (s.n % 64 + 1) := by
      rw [List.set_eq_take_append_cons_drop, if_pos (by omega)]
    by_cases hx : xs.length = 0
    · obtain rfl : xs = [] := List.eq_nil_of_length_eq_zero hx
      simp only [St.take, List.foldl_nil, St.put, List.length_singleton, eset]
      by_cases h3 : s.n % 64 = 63
      · rw [if_pos h3, if_pos (by omega)]; rfl
      · rw [if_neg h3, if_neg (by omega)]; rfl
    · have h2 : s.n % 64 ≠ 63 := by omega
      have hm : (s.n + 1) % 64 = s.n % 64 + 1 := by omega
      have e : s.put x = ⟨s.ws, s.left.set (s.n % 64) x, s.n + 1⟩ := by simp [St.put, h2]
      rw [e, ih ⟨s.ws, s.left.set (s.n % 64) x, s.n + 1⟩ (by simpa using hl) (by omega) (by simp only [hm]; omega)]
      simp only [hm, List.length_cons]
      have a1 : s.n % 64 + 1 + xs.length = s.n % 64 + (xs.length + 1) := by omega
      have a2 : s.n + 1 + xs.length = s.n + (xs.length + 1) := by omega
      have e3 : (s.left.set (s.n % 64) x).take (s.n % 64 + 1) = s.left.take (s.n % 64) ++ [x] := by
        rw [eset, List.take_append, List.length_take, Nat.min_eq_left (by omega), List.take_of_length_le (by rw [List.length_take]; omega), Nat.add_sub_cancel_left]
        rfl
      have e4 : (s.left.set (s.n % 64) x).drop (s.n % 64 + 1 + xs.length) = s.left.drop (s.n % 64 + (xs.length + 1)) := by
        rw [List.drop_set_of_lt (by omega), a1]
      rw [e3, e4, a1, a2]
      simp only [List.append_assoc, List.cons_append, List.nil_append]

end Go.Proofs.Sha
