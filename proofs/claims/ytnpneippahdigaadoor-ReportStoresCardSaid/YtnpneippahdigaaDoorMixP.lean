/-
  What the walk of 'mix' needs of numbers, lists and a block of a digest's state.
-/
import Derived.Test.YtnpneippahdigaaDoorSha
import Derived.Test.YtnpneippahdigaaDoorMem
import Derived.WalkKit
namespace Go.Proofs.YtnpneippahdigaaDoor
open Go.RowKit Go.Proofs.Mem

def stCells (ws left : List Nat) (n : Nat) : List Value := ints .u32 ws ++ (ints .u8 left ++ [.int .u64 (Int.ofNat n)])

theorem st_word {ws left : List Nat} {n i : Nat} (hw : ws.length = 8) (hi : i < 8) : (stCells ws left n)[i]? = some (.int .u32 (ws.getD i 0 : Nat)) := by
  unfold stCells
  rw [List.getElem?_append_left (by rw [ints_length]; omega)]
  exact ints_get _ _ _ (by omega)
theorem st_byte {ws left : List Nat} {n i : Nat} (hw : ws.length = 8) (hi : i < left.length) : (stCells ws left n)[8 + i]? = some (.int .u8 (left.getD i 0 : Nat)) := by
  unfold stCells
  rw [List.getElem?_append_right (by rw [ints_length]; omega), ints_length, hw, Nat.add_sub_cancel_left, List.getElem?_append_left (by rw [ints_length]; omega)]
  exact ints_get _ _ _ hi
theorem st_set {ws left : List Nat} {n i v : Nat} (hi : i < ws.length) : (stCells ws left n).set i (.int .u32 (v : Int)) = stCells (ws.set i v) left n := by
  unfold stCells
  rw [List.set_append_left _ _ (by rw [ints_length]; exact hi), ints_set]
theorem st_num {ws left : List Nat} {n : Nat} (hw : ws.length = 8) (hl : left.length = 64) : (stCells ws left n)[72]? = some (.int .u64 (n : Int)) := by
  unfold stCells
  rw [List.getElem?_append_right (by rw [ints_length]; omega), List.getElem?_append_right (by rw [ints_length, ints_length]; omega), ints_length, ints_length, hw, hl]
  rfl

theorem wordTo_lt (b : List Nat) (t k : Nat) (hb : ∀ i, b.getD i 0 < 256) : Sha.wordTo b t k < 4294967296 := by
  cases k with
  | zero => simp [Sha.wordTo]
  | succ k =>
    unfold Sha.wordTo Sha.M
    exact Nat.or_lt_two_pow (n := 32) (Nat.mod_lt _ (by decide)) (Nat.lt_trans (hb _) (by decide))
theorem load_length (b : List Nat) (t : Nat) : (Sha.load b t).length = 64 := by
  induction t with
  | zero => simp [Sha.load]
  | succ t ih => simp [Sha.load, ih]
theorem load_zero (b : List Nat) (t k : Nat) (h : t ≤ k) : (Sha.load b t).getD k 0 = 0 := by
  induction t with
  | zero =>
    simp only [Sha.load, List.getD_eq_getElem?_getD, List.getElem?_replicate]
    split <;> rfl
  | succ t ih =>
    have := ih (by omega)
    simp only [Sha.load, List.getD_eq_getElem?_getD, List.getElem?_set] at *
    rw [if_neg (by omega)]
    exact this
theorem set_getD_self (l : List Nat) (t : Nat) (h : l.getD t 0 = 0) : l.set t 0 = l := by
  by_cases ht : t < l.length
  · have : l[t] = 0 := by simpa [List.getD_eq_getElem?_getD, List.getElem?_eq_getElem ht] using h
    conv => lhs; rw [← this]
    exact List.set_getElem_self ht
  · exact List.set_eq_of_length_le (by omega)
theorem getD_set_self (l : List Nat) (t v : Nat) (h : t < l.length) : (l.set t v).getD t 0 = v := by
  simp [List.getD_eq_getElem?_getD, h]
theorem or_int (x y : Nat) (hy : y < 256) : bits .or .u32 ((x : Int) * 256 % 4294967296) (y : Int) = (((x * 256 % 4294967296) ||| y : Nat) : Int) := by
  have e1 : ((x : Int) * 256 % 4294967296) = ((x * 256 % 4294967296 : Nat) : Int) := by rw [Int.natCast_emod, Int.natCast_mul]; rfl
  rw [e1]
  exact u32_or_nat _ _ (Nat.mod_lt _ (by decide)) (Nat.lt_trans hy (by decide))

theorem more_length (x : List Nat) (t : Nat) : (Sha.more x t).length = x.length := by
  induction t with
  | zero => rfl
  | succ t ih => simp [Sha.more, ih]
theorem lt_set {l : List Nat} {m i v : Nat} (h : ∀ k, l.getD k 0 < m) (hv : v < m) : ∀ k, (l.set i v).getD k 0 < m := by
  intro k
  have := h k
  simp only [List.getD_eq_getElem?_getD, List.getElem?_set] at *
  split
  · split
    · exact hv
    · exact Nat.lt_of_le_of_lt (Nat.zero_le _) hv
  · exact this
theorem more_lt (x : List Nat) (t : Nat) (h : ∀ i, x.getD i 0 < 4294967296) : ∀ k, (Sha.more x t).getD k 0 < 4294967296 := by
  induction t with
  | zero => exact h
  | succ t ih => exact lt_set ih (Nat.mod_lt _ (by decide))
theorem load_lt (b : List Nat) (t : Nat) (h : ∀ i, b.getD i 0 < 256) : ∀ k, (Sha.load b t).getD k 0 < 4294967296 := by
  induction t with
  | zero => intro k; rw [load_zero b 0 k (Nat.zero_le _)]; decide
  | succ t ih => exact lt_set ih (wordTo_lt b t 4 h)
theorem sched_lt (b : List Nat) (h : ∀ i, b.getD i 0 < 256) : ∀ k, (Sha.sched b).getD k 0 < 4294967296 := more_lt _ _ (load_lt _ _ h)
theorem sched_length (b : List Nat) : (Sha.sched b).length = 64 := by unfold Sha.sched; rw [more_length, load_length]

theorem rr_lt (x n : Nat) (hx : x < 4294967296) : Sha.rr x n < 4294967296 := by
  unfold Sha.rr Sha.M
  exact Nat.or_lt_two_pow (n := 32) (Nat.mod_lt _ (by decide)) (Nat.lt_of_le_of_lt (Nat.div_le_self _ _) hx)
theorem xor3 (a b c : Nat) (ha : a < 4294967296) (hb : b < 4294967296) (hc : c < 4294967296) : bits .xor .u32 (bits .xor .u32 (a : Int) (b : Int)) (c : Int) = ((a ^^^ b ^^^ c : Nat) : Int) := by
  rw [u32_xor_nat _ _ ha hb, u32_xor_nat _ _ (Nat.xor_lt_two_pow (n := 32) ha hb) hc]
theorem ss0_int (x : Nat) (hx : x < 4294967296) : bits .xor .u32 (bits .xor .u32 (Sha.rr x 7 : Nat) (Sha.rr x 18 : Nat)) ((x : Int) / 8) = (Sha.ss0 x : Nat) := by
  have e : (x : Int) / 8 = ((x / 8 : Nat) : Int) := by omega
  rw [e]; exact xor3 _ _ _ (rr_lt x 7 hx) (rr_lt x 18 hx) (by omega)
theorem ss1_int (x : Nat) (hx : x < 4294967296) : bits .xor .u32 (bits .xor .u32 (Sha.rr x 17 : Nat) (Sha.rr x 19 : Nat)) ((x : Int) / 1024) = (Sha.ss1 x : Nat) := by
  have e : (x : Int) / 1024 = ((x / 1024 : Nat) : Int) := by omega
  rw [e]; exact xor3 _ _ _ (rr_lt x 17 hx) (rr_lt x 19 hx) (by omega)
theorem bs1_int (x : Nat) (hx : x < 4294967296) : bits .xor .u32 (bits .xor .u32 (Sha.rr x 6 : Nat) (Sha.rr x 11 : Nat)) (Sha.rr x 25 : Nat) = (Sha.bs1 x : Nat) :=
  xor3 _ _ _ (rr_lt x 6 hx) (rr_lt x 11 hx) (rr_lt x 25 hx)
theorem bs0_int (x : Nat) (hx : x < 4294967296) : bits .xor .u32 (bits .xor .u32 (Sha.rr x 2 : Nat) (Sha.rr x 13 : Nat)) (Sha.rr x 22 : Nat) = (Sha.bs0 x : Nat) :=
  xor3 _ _ _ (rr_lt x 2 hx) (rr_lt x 13 hx) (rr_lt x 22 hx)
theorem more_int (X : List Nat) (i : Nat) (x0 x1 x9 x14 : Nat) (e : X.getD i 0 = x0 ∧ X.getD (1 + i) 0 = x1 ∧ X.getD (9 + i) 0 = x9 ∧ X.getD (14 + i) 0 = x14) (h1 : x1 < 4294967296) (h14 : x14 < 4294967296) :
    ((x0 : Int) + (x9 : Int) + bits .xor .u32 (bits .xor .u32 (Sha.rr x1 7 : Nat) (Sha.rr x1 18 : Nat)) ((x1 : Int) / 8) + bits .xor .u32 (bits .xor .u32 (Sha.rr x14 17 : Nat) (Sha.rr x14 19 : Nat)) ((x14 : Int) / 1024)) % 4294967296
      = (((X.getD i 0 + X.getD (9 + i) 0 + Sha.ss0 (X.getD (1 + i) 0) + Sha.ss1 (X.getD (14 + i) 0)) % Sha.M : Nat) : Int) := by
  obtain ⟨rfl, rfl, rfl, rfl⟩ := e
  rw [ss0_int _ h1, ss1_int _ h14]
  unfold Sha.M
  omega

theorem not32 (e : Nat) (he : e < 4294967296) : e ^^^ 4294967295 = 4294967295 - e := by
  have := Nat.xor_lt_two_pow (n := 32) he (show 4294967295 < 2 ^ 32 by decide)
  apply Nat.eq_of_testBit_eq
  intro i
  have e2 : 4294967295 - e = 2 ^ 32 - (e + 1) := by omega
  rw [e2, Nat.testBit_two_pow_sub_succ (show e < 2 ^ 32 from he), Nat.testBit_xor, show (4294967295 : Nat) = 2 ^ 32 - 1 by decide, Nat.testBit_two_pow_sub_one]
  by_cases hi : i < 32
  · simp [hi]
  · have : e.testBit i = false := Nat.testBit_lt_two_pow (Nat.lt_of_lt_of_le (show e < 2 ^ 32 from he) (Nat.pow_le_pow_right (show 2 > 0 by decide) (by omega : 32 ≤ i)))
    simp [hi, this]
theorem ch_int (e f g : Nat) (he : e < 4294967296) (hf : f < 4294967296) (hg : g < 4294967296) :
    bits .xor .u32 (bits .and .u32 (e : Int) (f : Int)) (bits .and .u32 (bits .xor .u32 IntKind.u32.max (e : Int)) (g : Int)) = (Sha.ch e f g : Nat) := by
  have hn : bits .xor .u32 IntKind.u32.max (e : Int) = ((4294967295 - e : Nat) : Int) := by
    rw [show IntKind.u32.max = ((4294967295 : Nat) : Int) by decide, u32_xor_nat _ _ (by decide) he]
    congr 1
    have := Nat.xor_comm 4294967295 e
    rw [this]
    exact not32 e he
  rw [hn, u32_and_nat _ _ he hf, u32_and_nat _ _ (by omega) hg, u32_xor_nat _ _ (Nat.and_lt_two_pow (n := 32) _ hf) (Nat.and_lt_two_pow (n := 32) _ hg)]
  rfl
theorem maj_int (a b c : Nat) (ha : a < 4294967296) (hb : b < 4294967296) (hc : c < 4294967296) :
    bits .xor .u32 (bits .xor .u32 (bits .and .u32 (a : Int) (b : Int)) (bits .and .u32 (a : Int) (c : Int))) (bits .and .u32 (b : Int) (c : Int)) = (Sha.maj a b c : Nat) := by
  rw [u32_and_nat _ _ ha hb, u32_and_nat _ _ ha hc, u32_and_nat _ _ hb hc]
  exact xor3 _ _ _ (Nat.and_lt_two_pow (n := 32) _ hb) (Nat.and_lt_two_pow (n := 32) _ hc) (Nat.and_lt_two_pow (n := 32) _ hc)

theorem turn_a (r : Sha.V8) (k x : Nat) (ok : r.ok) :
    ((r.h : Int) + bits .xor .u32 (bits .xor .u32 (Sha.rr r.e 6 : Nat) (Sha.rr r.e 11 : Nat)) (Sha.rr r.e 25 : Nat) + bits .xor .u32 (bits .and .u32 (r.e : Int) (r.f : Int)) (bits .and .u32 (bits .xor .u32 IntKind.u32.max (r.e : Int)) (r.g : Int)) + (k : Int) + (x : Int)
      + (bits .xor .u32 (bits .xor .u32 (Sha.rr r.a 2 : Nat) (Sha.rr r.a 13 : Nat)) (Sha.rr r.a 22 : Nat) + bits .xor .u32 (bits .xor .u32 (bits .and .u32 (r.a : Int) (r.b : Int)) (bits .and .u32 (r.a : Int) (r.c : Int))) (bits .and .u32 (r.b : Int) (r.c : Int)))) % 4294967296
      = ((Sha.turn r k x).a : Nat) := by
  obtain ⟨ba, bb, bc, bd, be, bf, bg, bh⟩ := ok
  simp only [Sha.M] at ba bb bc bd be bf bg bh
  rw [bs1_int _ be, ch_int _ _ _ be bf bg, bs0_int _ ba, maj_int _ _ _ ba bb bc]
  simp only [Sha.turn, Sha.t1, Sha.t2, Sha.M]
  omega
theorem turn_e (r : Sha.V8) (k x : Nat) (ok : r.ok) :
    ((r.d : Int) + ((r.h : Int) + bits .xor .u32 (bits .xor .u32 (Sha.rr r.e 6 : Nat) (Sha.rr r.e 11 : Nat)) (Sha.rr r.e 25 : Nat) + bits .xor .u32 (bits .and .u32 (r.e : Int) (r.f : Int)) (bits .and .u32 (bits .xor .u32 IntKind.u32.max (r.e : Int)) (r.g : Int)) + (k : Int) + (x : Int))) % 4294967296
      = ((Sha.turn r k x).e : Nat) := by
  obtain ⟨ba, bb, bc, bd, be, bf, bg, bh⟩ := ok
  simp only [Sha.M] at ba bb bc bd be bf bg bh
  rw [bs1_int _ be, ch_int _ _ _ be bf bg]
  simp only [Sha.turn, Sha.t1, Sha.M]
  omega
theorem turn_ok (r : Sha.V8) (k x : Nat) (ok : r.ok) : (Sha.turn r k x).ok := by
  obtain ⟨ba, bb, bc, bd, be, bf, bg, bh⟩ := ok
  have hM : Sha.M > 0 := by decide
  exact ⟨Nat.mod_lt _ hM, ba, bb, bc, Nat.mod_lt _ hM, be, bf, bg⟩
theorem rounds_ok (w : List Nat) (v : Sha.V8) (t : Nat) (hv : v.ok) : (Sha.rounds w v t).ok := by
  induction t with
  | zero => exact hv
  | succ t ih => exact turn_ok _ _ _ ih
theorem ofList_ok (l : List Nat) (h : ∀ i, l.getD i 0 < 4294967296) : (Sha.ofList l).ok := ⟨h 0, h 1, h 2, h 3, h 4, h 5, h 6, h 7⟩
theorem addTo_length (l x : List Nat) (i : Nat) : (Sha.addTo l x i).length = l.length := by
  induction i with
  | zero => rfl
  | succ i ih => simp [Sha.addTo, ih]
theorem addTo_lt (l x : List Nat) (i : Nat) (h : ∀ i, l.getD i 0 < 4294967296) : ∀ k, (Sha.addTo l x i).getD k 0 < 4294967296 := by
  induction i with
  | zero => exact h
  | succ i ih => exact lt_set ih (Nat.mod_lt _ (by decide))
theorem mix_length (l b : List Nat) : (Sha.mix l b).length = l.length := addTo_length _ _ _
theorem mix_lt (l b : List Nat) (h : ∀ i, l.getD i 0 < 4294967296) : ∀ k, (Sha.mix l b).getD k 0 < 4294967296 := addTo_lt _ _ _ h
theorem turns_length : Sha.turns.length = 64 := by decide

/-- the table of the turns lies where package digest lays it. -/
def TurnsAt (w : World) : Prop := ∃ T fr, w.heap[17]? = some (.cells (ints .u32 Sha.turns).toArray T fr)
theorem turns_ne {w : World} (hT : TurnsAt w) {b : Nat} {ws left : List Nat} {n : Nat} {T : TypeId} {fr : Nat × Nat} (hb : w.heap[b]? = some (.cells (stCells ws left n).toArray T fr)) (hw : ws.length = 8) (hl : left.length = 64) : 17 ≠ b := by
  intro e
  subst e
  obtain ⟨T', fr', hT⟩ := hT
  have h := hT.symm.trans hb
  simp only [Option.some.injEq, Obj.cells.injEq] at h
  have := congrArg Array.size h.1
  simp [stCells, ints, hw, hl, turns_length] at this
theorem TurnsAt.keep {p : Nat → Prop} {w w' : World} (h : TurnsAt w) (k : Keep p w w') (hp : p 17) : TurnsAt w' := by
  obtain ⟨T, fr, h⟩ := h
  exact ⟨T, fr, (k.block _ hp).trans h⟩
theorem TurnsAt.lt {w : World} (h : TurnsAt w) : 17 < w.heap.size := by
  obtain ⟨T, fr, h⟩ := h
  exact (Array.getElem?_eq_some_iff.1 h).1
theorem TurnsAt.cell {w : World} (h : TurnsAt w) (t : Nat) (ht : t < 64) : w.cell? ⟨17, t, none⟩ = some (.int .u32 (Sha.turns.getD t 0 : Nat)) := by
  obtain ⟨T, fr, h⟩ := h
  rw [cell_at h, ints_get _ _ _ (by rw [turns_length]; omega)]

end Go.Proofs.YtnpneippahdigaaDoor
