/-
  What a report's bytes are read as, and what is read of bytes as bytes again. (Plain.)
-/
import Derived.Test.YtnpneippahdigaaDoorRepE
import Derived.Test.YtnpneippahdigaaDoorRepK
namespace Go.Proofs.Rp

theorem snoc_ind {α : Type} {P : List α → Prop} (h0 : P []) (h1 : ∀ l x, P l → P (l ++ [x])) : ∀ l, P l := by
  intro l
  generalize hn : l.length = n
  induction n generalizing l with
  | zero => rw [List.eq_nil_of_length_eq_zero hn]; exact h0
  | succ n ih =>
    have hne : l ≠ [] := fun e => by rw [e] at hn; cases hn
    rw [← List.dropLast_concat_getLast hne]
    exact h1 _ _ (ih _ (by rw [List.length_dropLast]; omega))
theorem num_snoc (k : Nat) : ∀ u : Nat, num u (k + 1) = num (u / 256) k ++ [u % 256] := by
  induction k with
  | zero => intro u; simp [num]
  | succ k ih =>
    intro u
    rw [num, ih u, num, Nat.div_div_eq_div_mul, Nat.mul_comm 256, ← Nat.pow_succ]
    rfl
theorem pow_le (k : Nat) (h : k ≤ 7) : 256 ^ k ≤ 72057594037927936 := by
  have : 256 ^ k ≤ 256 ^ 7 := Nat.pow_le_pow_right (by decide) h
  exact Nat.le_trans this (by decide)
theorem num8_num (k : Nat) : ∀ u : Nat, k ≤ 8 → Drw.num8 (num u k) = u % 256 ^ k := by
  induction k with
  | zero => intro u _; rw [num, Nat.pow_zero, Nat.mod_one]; rfl
  | succ k ih =>
    intro u hk
    have hp := pow_le k (by omega)
    have hm : u / 256 % 256 ^ k < 256 ^ k := Nat.mod_lt _ (Nat.pow_pos (by decide))
    rw [num_snoc, Drw.num8_snoc, ih _ (by omega), Wr.or_add _ _ (Nat.mod_lt _ (by decide)), Nat.mod_eq_of_lt (by omega), Nat.pow_succ, Nat.mul_comm (256 ^ k), Nat.mod_mul]
    omega
theorem num8_bound (l : List Nat) : l.length ≤ 8 → (∀ x ∈ l, x < 256) → Drw.num8 l < 256 ^ l.length := by
  induction l using snoc_ind with
  | h0 => intro _ _; decide
  | h1 l x ih =>
    intro h8 h
    rw [List.length_append] at h8 ⊢
    simp only [List.length_cons, List.length_nil, Nat.zero_add] at h8 ⊢
    have hp := pow_le l.length (by omega)
    have hx := h x (by simp)
    have hl := ih (by omega) (fun y hy => h y (by simp [hy]))
    rw [Drw.num8_snoc, Wr.or_add _ _ hx, Nat.mod_eq_of_lt (by omega), Nat.pow_succ]
    omega
theorem num_num8 (l : List Nat) : l.length ≤ 8 → (∀ x ∈ l, x < 256) → num (Drw.num8 l) l.length = l := by
  induction l using snoc_ind with
  | h0 => intro _ _; rfl
  | h1 l x ih =>
    intro h8 h
    rw [List.length_append] at h8 ⊢
    simp only [List.length_cons, List.length_nil, Nat.zero_add] at h8 ⊢
    have hp := pow_le l.length (by omega)
    have hx := h x (by simp)
    have hb := num8_bound l (by omega) (fun y hy => h y (by simp [hy]))
    rw [num_snoc, Drw.num8_snoc, Wr.or_add _ _ hx, Nat.mod_eq_of_lt (by omega), show (Drw.num8 l * 256 + x) / 256 = Drw.num8 l by omega, show (Drw.num8 l * 256 + x) % 256 = x by omega, ih (by omega) (fun y hy => h y (by simp [hy]))]

theorem mid {α : Type} (p m s : List α) (i k : Nat) (hp : p.length = i) (hk : m.length = k) : ((p ++ (m ++ s)).drop i).take k = m := by
  subst hp hk
  rw [List.drop_append_of_le_length (Nat.le_refl _), List.drop_length, List.nil_append, List.take_append_of_le_length (Nat.le_refl _), List.take_length]
/-- a number that lies at a place. -/
theorem val_mid (b p s : List Nat) (u i k : Nat) (hb : b = p ++ (num u k ++ s)) (hp : p.length = i) (hk : k ≤ 8) : val b i k = Wr.i64 (u % 256 ^ k) := by
  unfold val
  rw [hb, mid p (num u k) s i k hp (num_length _ _), num8_num _ _ hk]
theorem val_small (b p s : List Nat) (x : Int) (i k : Nat) (hb : b = p ++ (num (Wr.u64 x) k ++ s)) (hp : p.length = i) (hk : k ≤ 7) (h0 : 0 ≤ x) (h1 : x < 256 ^ k) : val b i k = x := by
  rw [val_mid b p s _ i k hb hp (by omega)]
  have h2 := pow_le k hk
  obtain ⟨n, rfl⟩ : ∃ n : Nat, x = (n : Int) := ⟨x.toNat, by omega⟩
  have h1' : n < 256 ^ k := by
    have : ((256 ^ k : Nat) : Int) = 256 ^ k := by simp
    omega
  rw [Wr.u64_nat _ (by omega), Nat.mod_eq_of_lt h1', Wr.i64_small _ (by omega)]
theorem val_eight (b p s : List Nat) (x : Int) (i : Nat) (hb : b = p ++ (num (Wr.u64 x) 8 ++ s)) (hp : p.length = i) (h0 : -9223372036854775808 ≤ x) (h1 : x ≤ 9223372036854775807) : val b i 8 = x := by
  rw [val_mid b p s _ i 8 hb hp (by omega), Nat.mod_eq_of_lt (Nat.lt_of_lt_of_le (Wr.u64_lt x) (by decide)), Wr.i64_u64 x h0 h1]
theorem headBytes_eq (r : Rep) : headBytes r = num (Wr.u64 r.o) 1 ++ (num (Wr.u64 r.f) 1 ++ (num (Wr.u64 r.g) 1 ++ (num (Wr.u64 r.n) 8 ++ (num (Wr.u64 r.at_) 4 ++ (num (Wr.u64 r.steps) 4 ++ num (Wr.u64 (r.races.length : Nat)) 2))))) := by
  simp [headBytes, nums, List.append_assoc]
theorem flags_lt (x : Race) : 0 ≤ flags x ∧ flags x ≤ 3 := by
  unfold flags; cases x.fw <;> cases x.sw <;> decide
theorem getD_mid (p : List Nat) (y : Nat) (s : List Nat) (i : Nat) (hp : p.length = i) : (p ++ (y :: s)).getD i 0 = y := by
  subst hp
  rw [List.getD_eq_getElem?_getD, List.getElem?_append_right (Nat.le_refl _), Nat.sub_self]; rfl
theorem range_ok (l : List Race) : ∀ a, -1 ≤ a → racesOk l a = true → ∀ x ∈ l, 0 ≤ x.pl ∧ x.pl ≤ 127 ∧ 0 ≤ x.fi ∧ x.fi ≤ 8192 ∧ 0 ≤ x.se ∧ x.se ≤ 8192 := by
  induction l with
  | nil => intro a _ _ x hx; cases hx
  | cons y l ih =>
    intro a ha h x hx
    rw [racesOk, Bool.and_eq_true] at h
    have h3 := h.1
    simp only [raceOk, Bool.and_eq_true, decide_eq_true_eq] at h3
    rcases List.mem_cons.1 hx with rfl | hx
    · omega
    · exact ih y.pl (by omega) h.2 x hx
theorem race_read (p s : List Nat) (x : Race) (o : Nat) (hp : p.length = o) (h : 0 ≤ x.pl ∧ x.pl ≤ 127 ∧ 0 ≤ x.fi ∧ x.fi ≤ 8192 ∧ 0 ≤ x.se ∧ x.se ≤ 8192) :
    raceOf (p ++ (raceBytes x ++ s)) o = x ∧ (p ++ (raceBytes x ++ s)).getD (o + 10) 0 ≤ 3 := by
  have hf := flags_lt x
  have e1 : num (Wr.u64 (flags x)) 1 = [(flags x).toNat] := by
    obtain ⟨n, hn⟩ : ∃ n : Nat, flags x = (n : Int) := ⟨(flags x).toNat, by omega⟩
    rw [hn, Wr.u64_nat _ (by omega)]
    simp only [num, Nat.pow_zero, Nat.div_one, Int.toNat_natCast]
    rw [Nat.mod_eq_of_lt (by omega)]
  have h2 : val (p ++ (raceBytes x ++ s)) o 2 = x.pl := val_small _ p (num (Wr.u64 x.fi) 4 ++ (num (Wr.u64 x.se) 4 ++ (num (Wr.u64 (flags x)) 1 ++ s))) x.pl o 2 (by simp [raceBytes, List.append_assoc]) hp (by decide) h.1 (by omega)
  have h3 : val (p ++ (raceBytes x ++ s)) (o + 2) 4 = x.fi := val_small _ (p ++ num (Wr.u64 x.pl) 2) (num (Wr.u64 x.se) 4 ++ (num (Wr.u64 (flags x)) 1 ++ s)) x.fi (o + 2) 4 (by simp [raceBytes, List.append_assoc]) (by simp [num_length, hp]) (by decide) h.2.2.1 (by omega)
  have h4 : val (p ++ (raceBytes x ++ s)) (o + 6) 4 = x.se := val_small _ (p ++ (num (Wr.u64 x.pl) 2 ++ num (Wr.u64 x.fi) 4)) (num (Wr.u64 (flags x)) 1 ++ s) x.se (o + 6) 4 (by simp [raceBytes, List.append_assoc]) (by simp [num_length, hp]) (by decide) h.2.2.2.2.1 (by omega)
  have h5 : (p ++ (raceBytes x ++ s)).getD (o + 10) 0 = (flags x).toNat := by
    have := getD_mid (p ++ (num (Wr.u64 x.pl) 2 ++ (num (Wr.u64 x.fi) 4 ++ num (Wr.u64 x.se) 4))) (flags x).toNat s (o + 10) (by simp [num_length, hp])
    rw [← this]
    congr 1
    simp [raceBytes, List.append_assoc, e1]
  refine ⟨?_, by rw [h5]; omega⟩
  unfold raceOf
  rw [h2, h3, h4, h5]
  obtain ⟨pl, fi, se, fw, sw⟩ := x
  simp only [flags]
  cases fw <;> cases sw <;> simp
theorem races_read (l : List Race) (hr : ∀ x ∈ l, 0 ≤ x.pl ∧ x.pl ≤ 127 ∧ 0 ≤ x.fi ∧ x.fi ≤ 8192 ∧ 0 ≤ x.se ∧ x.se ≤ 8192) (p : List Nat) (o : Nat) (hp : p.length = o) : ∀ i x, l[i]? = some x →
    raceOf (p ++ l.flatMap raceBytes) (o + 11 * i) = x ∧ (p ++ l.flatMap raceBytes).getD (o + 11 * i + 10) 0 ≤ 3 := by
  intro i x hx
  have hi : i < l.length := (List.getElem?_eq_some_iff.1 hx).1
  have e : l = l.take i ++ (x :: l.drop (i + 1)) := by
    have h1 : l.drop i = x :: l.drop (i + 1) := by
      rw [List.drop_eq_getElem_cons hi]
      congr 1
      exact (List.getElem?_eq_some_iff.1 hx).2
    rw [← h1, List.take_append_drop]
  have e2 : p ++ l.flatMap raceBytes = (p ++ (l.take i).flatMap raceBytes) ++ (raceBytes x ++ (l.drop (i + 1)).flatMap raceBytes) := by
    conv => lhs; rw [e]
    rw [List.flatMap_append, List.flatMap_cons, List.append_assoc]
  rw [e2]
  exact race_read _ _ x _ (by rw [List.length_append, races_length, List.length_take, hp, Nat.min_eq_left (Nat.le_of_lt hi)]) (hr x (List.mem_of_getElem? hx))
theorem racesAt_bytes (l : List Race) (hr : ∀ x ∈ l, 0 ≤ x.pl ∧ x.pl ≤ 127 ∧ 0 ≤ x.fi ∧ x.fi ≤ 8192 ∧ 0 ≤ x.se ∧ x.se ≤ 8192) (p : List Nat) (hp : p.length = 21) :
    racesAt l.length (p ++ l.flatMap raceBytes) (List.range l.length) = l ∧ flagsOk l.length (p ++ l.flatMap raceBytes) (List.range l.length) = true := by
  have h := races_read l hr p 21 hp
  constructor
  · apply List.ext_getElem?
    intro i
    simp only [racesAt, List.getElem?_map]
    by_cases hi : i < l.length
    · rw [List.getElem?_range hi, Option.map_some, Nat.mod_eq_of_lt hi, List.getElem?_eq_getElem hi]
      exact congrArg some (h i _ (List.getElem?_eq_getElem hi)).1
    · rw [List.getElem?_eq_none (by rw [List.length_range]; omega), List.getElem?_eq_none (by omega)]; rfl
  · unfold flagsOk
    rw [List.all_eq_true]
    intro i hi
    have hi := List.mem_range.1 hi
    rw [Nat.mod_eq_of_lt hi]
    simpa using (h i _ (List.getElem?_eq_getElem hi)).2
theorem head_read (r : Rep) (hok : ok r = true) (hn0 : -9223372036854775808 ≤ r.n) (hn1 : r.n ≤ 9223372036854775807) (l : List Race) : headOf (bytes r) l = { r with races := l } := by
  have h := hok
  simp only [ok, headOk, Bool.and_eq_true, decide_eq_true_eq] at h
  obtain ⟨⟨⟨he, hs0, hs1⟩, _⟩, _⟩ := h
  have hE : 0 ≤ r.o ∧ r.o ≤ 4 ∧ 0 ≤ r.f ∧ r.f ≤ 7 ∧ 0 ≤ r.g ∧ r.g ≤ 7 ∧ 0 ≤ r.at_ ∧ r.at_ ≤ 8192 := by
    unfold endOk at he
    split at he
    · rename_i h3
      simp only [Bool.and_eq_true, decide_eq_true_eq] at he
      omega
    · simp only [Bool.and_eq_true, decide_eq_true_eq] at he
      omega
  obtain ⟨a0, a1, b0, b1, c0, c1, d0, d1⟩ := hE
  have e : bytes r = num (Wr.u64 r.o) 1 ++ (num (Wr.u64 r.f) 1 ++ (num (Wr.u64 r.g) 1 ++ (num (Wr.u64 r.n) 8 ++ (num (Wr.u64 r.at_) 4 ++ (num (Wr.u64 r.steps) 4 ++ (num (Wr.u64 (r.races.length : Nat)) 2 ++ r.races.flatMap raceBytes)))))) := by
    rw [bytes, headBytes_eq]; simp only [List.append_assoc]
  have h0 : val (bytes r) 0 1 = r.o := val_small _ [] _ _ 0 1 e rfl (by decide) a0 (by omega)
  have h1 : val (bytes r) 1 1 = r.f := val_small _ (num (Wr.u64 r.o) 1) _ _ 1 1 e (by simp [num_length]) (by decide) b0 (by omega)
  have h2 : val (bytes r) 2 1 = r.g := val_small _ (num (Wr.u64 r.o) 1 ++ num (Wr.u64 r.f) 1) _ _ 2 1 (by rw [e]; simp only [List.append_assoc]; rfl) (by simp [num_length]) (by decide) c0 (by omega)
  have h3 : val (bytes r) 3 8 = r.n := val_eight _ (num (Wr.u64 r.o) 1 ++ (num (Wr.u64 r.f) 1 ++ num (Wr.u64 r.g) 1)) _ _ 3 (by rw [e]; simp only [List.append_assoc]; rfl) (by simp [num_length]) hn0 hn1
  have h4 : val (bytes r) 11 4 = r.at_ := val_small _ (num (Wr.u64 r.o) 1 ++ (num (Wr.u64 r.f) 1 ++ (num (Wr.u64 r.g) 1 ++ num (Wr.u64 r.n) 8))) _ _ 11 4 (by rw [e]; simp only [List.append_assoc]; rfl) (by simp [num_length]) (by decide) d0 (by omega)
  have h5 : val (bytes r) 15 4 = r.steps := val_small _ (num (Wr.u64 r.o) 1 ++ (num (Wr.u64 r.f) 1 ++ (num (Wr.u64 r.g) 1 ++ (num (Wr.u64 r.n) 8 ++ num (Wr.u64 r.at_) 4)))) _ _ 15 4 (by rw [e]; simp only [List.append_assoc]; rfl) (by simp [num_length]) (by decide) hs0 (by omega)
  unfold headOf
  rw [h0, h1, h2, h3, h4, h5]
end Go.Proofs.Rp
namespace Go.Proofs.YtnpneippahdigaaDoor
open Go.Proofs.Rp

/-- a report's bytes are read as the report. -/
theorem getRep_bytes (r : Rep) (hok : ok r = true) (hn0 : -9223372036854775808 ≤ r.n) (hn1 : r.n ≤ 9223372036854775807) : getRep (Rp.bytes r) = some r := by
  have h := hok
  simp only [ok, headOk, Bool.and_eq_true, decide_eq_true_eq] at h
  have hN : r.races.length ≤ 128 := h.1.2
  have hc : cntOf (Rp.bytes r) = r.races.length := by
    have := cnt_bytes r [] (by omega)
    rwa [List.append_nil] at this
  have hR := racesAt_bytes r.races (range_ok r.races (-1) (by decide) h.2) (headBytes r) (headBytes_length r)
  unfold getRep
  rw [hc, show Rp.bytes r = headBytes r ++ r.races.flatMap raceBytes from rfl, hR.1, hR.2, show headBytes r ++ r.races.flatMap raceBytes = Rp.bytes r from rfl, head_read r hok hn0 hn1]
  simp only [Bool.true_and]
  rw [if_pos hok]

theorem u64_val (b : List Nat) (i k : Nat) (hk : k ≤ 8) (hx : ∀ x ∈ b, x < 256) (hl : i + k ≤ b.length) : num (Wr.u64 (val b i k)) k = (b.drop i).take k := by
  have hb : ∀ x ∈ (b.drop i).take k, x < 256 := fun x h => hx x (List.mem_of_mem_drop (List.mem_of_mem_take h))
  have hlen : ((b.drop i).take k).length = k := by rw [List.length_take, List.length_drop]; omega
  unfold val
  rw [Wr.u64_i64 _ (Drw.num8_lt _ hb)]
  have := num_num8 ((b.drop i).take k) (by omega) hb
  rwa [hlen] at this
theorem take_more (b : List Nat) (i k : Nat) : b.take i ++ (b.drop i).take k = b.take (i + k) := by
  rw [List.take_add]
theorem piece_bytes (b : List Nat) (o : Nat) (hx : ∀ x ∈ b, x < 256) (hl : o + 11 ≤ b.length) (hf : b.getD (o + 10) 0 ≤ 3) : raceBytes (raceOf b o) = (b.drop o).take 11 := by
  have e1 : num (Wr.u64 (flags (raceOf b o))) 1 = (b.drop (o + 10)).take 1 := by
    have hg : b[o + 10]? = some (b.getD (o + 10) 0) := by
      rw [List.getD_eq_getElem?_getD, List.getElem?_eq_getElem (by omega)]; rfl
    have hd : (b.drop (o + 10)).take 1 = [b.getD (o + 10) 0] := by
      rw [List.drop_eq_getElem_cons (by omega), List.take_succ_cons, List.take_zero]
      congr 1
      rw [List.getElem?_eq_getElem (by omega)] at hg
      exact Option.some.inj hg
    have hfl : flags (raceOf b o) = ((b.getD (o + 10) 0 : Nat) : Int) := by
      unfold raceOf flags
      simp only
      generalize b.getD (o + 10) 0 = y at hf
      have : y = 0 ∨ y = 1 ∨ y = 2 ∨ y = 3 := by omega
      rcases this with rfl | rfl | rfl | rfl <;> simp
    rw [hd, hfl, Wr.u64_nat _ (by omega)]
    simp only [num, Nat.pow_zero, Nat.div_one]
    rw [Nat.mod_eq_of_lt (by omega)]
  unfold raceBytes
  rw [e1]
  unfold raceOf
  simp only
  rw [u64_val b o 2 (by decide) hx (by omega), u64_val b (o + 2) 4 (by decide) hx (by omega), u64_val b (o + 6) 4 (by decide) hx (by omega)]
  have t1 : (b.drop (o + 2)).take 4 = ((b.drop o).drop 2).take 4 := by rw [List.drop_drop]
  have t2 : (b.drop (o + 6)).take 4 = ((b.drop o).drop 6).take 4 := by rw [List.drop_drop]
  have t3 : (b.drop (o + 10)).take 1 = ((b.drop o).drop 10).take 1 := by rw [List.drop_drop]
  rw [t1, t2, t3, ← List.append_assoc, take_more, ← List.append_assoc, take_more, take_more]
theorem pieces_bytes (b : List Nat) (N : Nat) (hx : ∀ x ∈ b, x < 256) (hf : ∀ i, i < N → b.getD (21 + 11 * i + 10) 0 ≤ 3) : ∀ k, k ≤ N → 21 + 11 * k ≤ b.length → b.take 21 ++ ((List.range k).map fun i => raceOf b (21 + 11 * (i % N))).flatMap raceBytes = b.take (21 + 11 * k) := by
  intro k
  induction k with
  | zero => intro _ _; simp
  | succ k ih =>
    intro hk hl
    rw [List.range_succ, List.map_append, List.flatMap_append, ← List.append_assoc, ih (by omega) (by omega)]
    simp only [List.map_cons, List.map_nil, List.flatMap_cons, List.flatMap_nil, List.append_nil]
    rw [Nat.mod_eq_of_lt (by omega), piece_bytes b _ hx (by omega) (hf k (by omega)), take_more]
    rfl
/-- what is read of bytes is written as they were. -/
theorem bytes_getRep (b : List Nat) (r : Rep) (hx : ∀ x ∈ b, x < 256) (hlen : b.length = 21 + 11 * cntOf b) (h : getRep b = some r) : Rp.bytes r = b ∧ ok r = true := by
  unfold getRep at h
  split at h
  · rename_i hc
    have h := Option.some.inj h
    subst h
    simp only [Bool.and_eq_true] at hc
    refine ⟨?_, hc.2⟩
    have hf : ∀ i, i < cntOf b → b.getD (21 + 11 * i + 10) 0 ≤ 3 := by
      intro i hi
      have := List.all_eq_true.1 hc.1 i (List.mem_range.2 hi)
      rw [Nat.mod_eq_of_lt hi] at this
      simpa using this
    have hr : (racesAt (cntOf b) b (List.range (cntOf b))).length = cntOf b := by simp [racesAt]
    have h2 : num (Wr.u64 ((cntOf b : Nat) : Int)) 2 = (b.drop 19).take 2 := by
      have h3 : cntOf b < 18446744073709551616 := Drw.num8_lt _ (fun x h => hx x (List.mem_of_mem_drop (List.mem_of_mem_take h)))
      have hl2 : ((b.drop 19).take 2).length = 2 := by rw [List.length_take, List.length_drop]; omega
      rw [Wr.u64_nat _ h3]
      have := num_num8 ((b.drop 19).take 2) (by omega) (fun x h => hx x (List.mem_of_mem_drop (List.mem_of_mem_take h)))
      rwa [hl2] at this
    rw [Rp.bytes, headBytes_eq]
    simp only [headOf]
    rw [hr, h2, u64_val b 0 1 (by decide) hx (by omega), u64_val b 1 1 (by decide) hx (by omega), u64_val b 2 1 (by decide) hx (by omega), u64_val b 3 8 (by decide) hx (by omega), u64_val b 11 4 (by decide) hx (by omega), u64_val b 15 4 (by decide) hx (by omega), List.drop_zero]
    simp only [← List.append_assoc]
    rw [take_more, take_more, take_more, take_more, take_more, take_more]
    rw [show racesAt (cntOf b) b (List.range (cntOf b)) = (List.range (cntOf b)).map fun i => raceOf b (21 + 11 * (i % cntOf b)) from rfl, pieces_bytes b (cntOf b) hx hf _ (Nat.le_refl _) (by omega), ← hlen, List.take_length]
  · cases h
end Go.Proofs.YtnpneippahdigaaDoor
