/-
  Races in the world: the accesses seen by places, the races found by places.
-/
import Derived.Test.YtalihehmbiohlaaDoorOrdI
import Derived.Test.YtalihehmbiohlaaDoorSortedC
namespace Go.Proofs.YtalihehmbiohlaaDoor
open Go.RowKit Go.Maps Go.Proofs.Mem Go.Proofs.Txt Go.Proofs.Ord Go.Proofs.Mp

def rcC (r : Rc) : List Value := [.int .i64 r.pl, .int .i64 r.fi, .int .i64 r.se, .bool r.fw, .bool r.sw]
def rcV (r : Rc) : Value := .agg (rcC r).toArray
def tabR (rs : List Rc) : Tab := rs.map fun r => (r.pl, rcV r)
theorem rc_size (r : Rc) : (Tryd.prog.info? 56).map (·.size) = some (rcC r).length := by
  have h : (Tryd.prog.info? 56).map (·.size) = some 5 := by kernel_rfl
  exact h
theorem rc_one (r : Rc) : (rcC r).toArray.all (·.oneCell') = true := by simp [rcC, Value.oneCell']
theorem mget_tabR (rs : List Rc) (p : Int) : mget (tabR rs) p = (rs.find? fun r => r.pl == p).map rcV := by
  unfold mget tabR
  rw [List.find?_map]
  cases h : rs.find? ((fun q : Int × Value => q.1 == p) ∘ fun r => (r.pl, rcV r)) with
  | none =>
    have : rs.find? (fun r => r.pl == p) = none := h
    rw [this]; rfl
  | some r =>
    have : rs.find? (fun r => r.pl == p) = some r := h
    rw [this]; rfl
theorem mget_tabR_isSome (rs : List Rc) (p : Int) : (mget (tabR rs) p).isSome = !(rs.all fun r => r.pl != p) := by
  rw [mget_tabR]
  induction rs with
  | nil => rfl
  | cons r rs ih =>
    rw [List.find?_cons, List.all_cons]
    by_cases h : r.pl = p
    · have : (r.pl == p) = true := by simp [h]
      simp [this, h]
    · have : (r.pl == p) = false := by simp [h]
      rw [this]
      simp only [bne, this, Bool.not_false, Bool.true_and]
      exact ih
theorem mins_tabR (r : Rc) (rs : List Rc) : mins (r.pl, rcV r) (tabR rs) = tabR (insR r rs) := by
  induction rs with
  | nil => rfl
  | cons x rs ih =>
    show mins (r.pl, rcV r) ((x.pl, rcV x) :: tabR rs) = _
    unfold mins insR
    simp only []
    split
    · rfl
    · show (x.pl, rcV x) :: _ = (x.pl, rcV x) :: tabR (insR r rs)
      rw [ih]
theorem mput_tabR (r : Rc) (rs : List Rc) (h : rs.all (fun x => x.pl != r.pl) = true) : mput (tabR rs) r.pl (rcV r) = tabR (insR r rs) := by
  unfold mput
  rw [mdel_of_none, mins_tabR]
  have := mget_tabR_isSome rs r.pl
  rw [h] at this
  cases hm : mget (tabR rs) r.pl with
  | none => rfl
  | some v => rw [hm] at this; cases this
def sv0 : Value := .slice none 0 0
/-- the accesses seen, by places. -/
structure SeenAt (B : Nat) (w : World) (M : Nat) (l : List Ev) (i : Nat) (t : Tab) : Prop where
  map : IMap Tryd.prog 3 w M t
  len : t.length ≤ i
  row : ∀ p, OwnS B w 60 5 ((mget t p).getD sv0) (acs l (accs l i p))
  ne : ∀ p q b, p ≠ q → ((mget t p).getD sv0).ownBlock = some b → ((mget t q).getD sv0).ownBlock ≠ some b
theorem SeenAt.start {B : Nat} {w : World} {M : Nat} (l : List Ev) (h : IMap Tryd.prog 3 w M []) : SeenAt B w M l 0 [] :=
  ⟨h, Nat.le_refl _, fun p => OwnS.nil _ _ _ _, fun p q b _ e => by cases e⟩
theorem SeenAt.next {B : Nat} {w w' : World} {M : Nat} {l : List Ev} {i : Nat} {t : Tab} (h : SeenAt B w M l i t) (k : Keep (· < w.heap.size) w w') : SeenAt B w' M l i t :=
  ⟨h.map.keep k h.map.lt, h.len, fun p => (h.row p).keep k (fun b hb => ((h.row p).lt hb).2), h.ne⟩
theorem acs_each (l : List Ev) (ks : List Nat) : ∀ x ∈ acs l ks, x.length = 5 := by
  intro x hx
  obtain ⟨k, _, rfl⟩ := List.mem_map.1 hx
  rfl
theorem acs_append (l : List Ev) (ks ms : List Nat) : acs l (ks ++ ms) = acs l ks ++ acs l ms := by simp [acs]
theorem SeenAt.other {B : Nat} {w : World} {M : Nat} {l : List Ev} {i : Nat} {t : Tab} (h : SeenAt B w M l i t) (hn : (evAt l i).acc = false) : SeenAt B w M l (i + 1) t :=
  ⟨h.map, Nat.le_succ_of_le h.len, fun p => by rw [accs_succ, hn]; simpa using h.row p, h.ne⟩
/-- an access more: its row has grown (w1), then the map holds it (w2). -/
theorem SeenAt.put {B : Nat} {w w1 w2 : World} {M : Nat} {l : List Ev} {i : Nat} {t : Tab} {v' : Value} (h : SeenAt B w M l i t) (ha : (evAt l i).acc = true) (hB : B ≤ w.heap.size)
    (r : OwnS B w1 60 5 v' (acs l (accs l i (evAt l i).obj) ++ [acC (evAt l i) i])) (k : Keep (fun b => b < w.heap.size ∧ ((mget t (evAt l i).obj).getD sv0).ownBlock ≠ some b) w w1)
    (o : ∀ b, v'.ownBlock = some b → ((mget t (evAt l i).obj).getD sv0).ownBlock = some b ∨ w.heap.size ≤ b) (m : IMap Tryd.prog 3 w2 M (mput t (evAt l i).obj v')) (g : w1.grownBy w2 (some M)) :
    SeenAt B w2 M l (i + 1) (mput t (evAt l i).obj v') ∧ Keep (fun b => b < w.heap.size ∧ b ≠ M ∧ ∀ p, ((mget t p).getD sv0).ownBlock ≠ some b) w w2 := by
  have hcell : ∀ p b, ((mget t p).getD sv0).ownBlock = some b → b ≠ M := fun p b hb e => by
    subst e
    rcases (h.row p).2 with ⟨e, _⟩ | ⟨g, c, cur, e, _, hg, _⟩
    · rw [e] at hb; cases hb
    · rw [e] at hb
      obtain rfl : g = b := by simpa [Value.ownBlock] using hb
      have := h.map.notCells hg
      cases this
  have hcell' : ∀ b, v'.ownBlock = some b → b ≠ M := fun b hb e => by
    rcases o b hb with h1 | h1
    · exact hcell _ b h1 e
    · have := h.map.lt; omega
  have kg : Keep (fun b => b < w1.heap.size ∧ b ≠ M) w1 w2 := (Keep.refl (fun b => b < w1.heap.size ∧ b ≠ M) w1).grown g (fun b hb => ⟨hb.1, fun e => hb.2 (by injection e)⟩)
  have ks := k.size
  refine ⟨⟨m, Nat.le_trans (length_put_le _ _ _) (Nat.succ_le_succ h.len), fun p => ?_, fun p q b hpq hb => ?_⟩, (k.mono fun b hb => ⟨hb.1, hb.2.2 _⟩).trans (kg.mono fun b hb => ⟨Nat.lt_of_lt_of_le hb.1 ks, hb.2.1⟩)⟩
  · rw [accs_succ, ha, Bool.true_and, mget_put]
    by_cases e : (evAt l i).obj = p
    · subst e
      simp only [if_true, beq_self_eq_true, Option.getD_some]
      rw [acs_append]
      exact r.keep kg (fun b hb => ⟨(r.lt hb).2, hcell' b hb⟩)
    · have e' : ((evAt l i).obj == p) = false := by simp [e]
      rw [if_neg e, e']
      simp only [Bool.false_eq_true, if_false, List.append_nil]
      exact ((h.row p).keep k (fun b hb => ⟨((h.row p).lt hb).2, h.ne p _ b (fun e2 => e e2.symm) hb⟩)).keep kg (fun b hb => ⟨Nat.lt_of_lt_of_le ((h.row p).lt hb).2 ks, hcell p b hb⟩)
  · rw [mget_put] at hb ⊢
    by_cases e1 : (evAt l i).obj = p
    · have e2 : (evAt l i).obj ≠ q := fun e => hpq (e1.symm.trans e)
      rw [if_pos e1] at hb
      rw [if_neg e2]
      intro hq
      rcases o b hb with h1 | h1
      · exact h.ne _ q b e2 h1 hq
      · have := ((h.row q).lt hq).2; omega
    · rw [if_neg e1] at hb
      by_cases e2 : (evAt l i).obj = q
      · rw [if_pos e2]
        intro hq
        rcases o b hq with h1 | h1
        · exact h.ne p _ b (fun e => e1 e.symm) hb h1
        · have := ((h.row p).lt hb).2; omega
      · rw [if_neg e2]; exact h.ne p q b hpq hb
theorem acc_info : (Tryd.prog.info? 60).map (fun i => (i.zero, i.size, i.bytes)) = some (some (.agg (acC ⟨0, 0, 0, 0⟩ 0).toArray), 5, 40) := by kernel_rfl
theorem race_info : (Tryd.prog.info? 56).map (fun i => (i.zero, i.size, i.bytes)) = some (some (rcV ⟨0, 0, 0, false, false⟩), 5, 32) := by kernel_rfl
/-- append of an access. -/
theorem acc_append (B : Nat) (w : World) (ty : TypeId) (v : Value) (ls : List (List Value)) (e : Ev) (k : Nat) (u : Addr) (h : OwnS B w 60 5 v ls) (hnews : ∀ j y, (acC e k)[j]? = some y → w.cell? (u.add j) = some y) (hb : ls.length ≤ 1000000) (hB : B ≤ w.heap.size) :
    ∃ v' w', (Builtin.append_ #[61, 61] ty #[v, .slice (some u) 1 1]).run Tryd.prog w = .ok v' w' ∧ OwnS B w' 60 5 v' (ls ++ [acC e k]) ∧ Keep (fun b => b < w.heap.size ∧ v.ownBlock ≠ some b) w w' ∧ ∀ b, v'.ownBlock = some b → v.ownBlock = some b ∨ w.heap.size ≤ b :=
  append_s 61 60 _ 5 40 Tryd.underlying61 acc_info rfl (by decide) B w ty v ls (acC e k) u h rfl hnews (fun y hy => by
    have := ac_one e k
    simp only [List.all_toArray, List.all_eq_true] at this
    exact this y hy) hb (by decide) hB
theorem race_append (B : Nat) (w : World) (ty : TypeId) (v : Value) (ls : List (List Value)) (r : Rc) (u : Addr) (h : OwnS B w 56 5 v ls) (hnews : ∀ j y, (rcC r)[j]? = some y → w.cell? (u.add j) = some y) (hb : ls.length ≤ 1000000) (hB : B ≤ w.heap.size) :
    ∃ v' w', (Builtin.append_ #[26, 26] ty #[v, .slice (some u) 1 1]).run Tryd.prog w = .ok v' w' ∧ OwnS B w' 56 5 v' (ls ++ [rcC r]) ∧ Keep (fun b => b < w.heap.size ∧ v.ownBlock ≠ some b) w w' ∧ ∀ b, v'.ownBlock = some b → v.ownBlock = some b ∨ w.heap.size ≤ b :=
  append_s 26 56 _ 5 32 Tryd.underlying26 race_info rfl (by decide) B w ty v ls (rcC r) u h rfl hnews (fun y hy => by
    have := rc_one r
    simp only [List.all_toArray, List.all_eq_true] at this
    exact this y hy) hb (by decide) hB
end Go.Proofs.YtalihehmbiohlaaDoor
