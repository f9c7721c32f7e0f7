/-
  Maps with keys of the kind int, whatever their elements: what they hold, and what an operation makes of it. No program in sight.
-/
import Derived.Maps.OwnSet
import Derived.Maps.Ext
import Derived.RangeFuncFrom
import Derived.Test.YtalihehmbiohlaaDoorMem
namespace Go.Proofs.Mp
open Go Go.Maps Go.Proofs.Mem

abbrev Tab := List (Int × Value)
/-- any value is read as itself. -/
def heldE (v : Value) : Option (DataW Value × List MemPlace) := some (.held v, [])
def encP (p : Int × Value) : Lit × DataW Value := (.int .i64 p.1, .held p.2)
def enc (m : Tab) : DataW Value := .map (m.map encP)
/-- block b is a map that holds m, its keys rising. -/
def IMap (P : Program) (K : TypeId) (w : World) (b : Nat) (m : Tab) : Prop := w.ownsMap P K heldE b m.length (enc m)
def mget (m : Tab) (k : Int) : Option Value := (m.find? (fun p => p.1 == k)).map (·.2)
def mdel (m : Tab) (k : Int) : Tab := m.filter (fun p => !(p.1 == k))
def mins (x : Int × Value) : Tab → Tab
  | [] => [x]
  | y :: r => if x.1 < y.1 then x :: y :: r else y :: mins x r
def mput (m : Tab) (k : Int) (v : Value) : Tab := mins (k, v) (mdel m k)

theorem sameKey_int (a b : Int) : (Lit.int .i64 a).sameKey (.int .i64 b) = (a == b) := by
  simp only [Lit.sameKey, true_and]
  by_cases h : a = b <;> simp [h]
theorem before_int (a b : Int) : (Lit.int .i64 a).before (.int .i64 b) = decide (a < b) := rfl
theorem enc_ins (x : Int × Value) (m : Tab) : DataW.insert (encP x) (m.map encP) = (mins x m).map encP := by
  induction m with
  | nil => rfl
  | cons y m ih =>
    simp only [List.map_cons, DataW.insert, mins, show (encP x).1.before (encP y).1 = decide (x.1 < y.1) from rfl, decide_eq_true_eq]
    split
    · simp
    · rw [ih]; simp
theorem filter_enc (m : Tab) (k : Int) : ((m.map encP).filter fun p => !p.1.sameKey (.int .i64 k)) = (mdel m k).map encP := by
  unfold mdel
  rw [List.filter_map]
  congr 1
  apply List.filter_congr
  intro p _
  show (!(Lit.int .i64 p.1).sameKey (.int .i64 k)) = _
  rw [sameKey_int]
theorem enc_put (m : Tab) (k : Int) (v : Value) : (enc m).put (.int .i64 k) (.held v) = enc (mput m k v) := by
  show DataW.map (DataW.insert _ ((m.map encP).filter fun p => !p.1.sameKey (.int .i64 k))) = _
  rw [filter_enc]
  exact congrArg DataW.map (enc_ins (k, v) (mdel m k))
theorem enc_del (m : Tab) (k : Int) : (enc m).del (.int .i64 k) = enc (mdel m k) := by
  show DataW.map ((m.map encP).filter fun p => !p.1.sameKey (.int .i64 k)) = _
  rw [filter_enc]; rfl
theorem find_enc (m : Tab) (k : Int) : (m.map encP).find? (fun p => p.1.sameKey (.int .i64 k)) = (m.find? (fun p => p.1 == k)).map encP := by
  induction m with
  | nil => rfl
  | cons y m ih =>
    rw [List.map_cons, List.find?_cons, List.find?_cons, show (encP y).1.sameKey (.int .i64 k) = (y.1 == k) from sameKey_int _ _]
    cases y.1 == k
    · exact ih
    · rfl
theorem atKey_enc (m : Tab) (k : Int) (z : Value) : (enc m).atKey (.int .i64 k) (.held z) = .held ((mget m k).getD z) := by
  simp only [enc, DataW.atKey]
  rw [find_enc]
  unfold mget
  cases m.find? (fun p => p.1 == k) <;> rfl
theorem has_enc (m : Tab) (k : Int) : Maps.has (enc m) (.int .i64 k) = (mget m k).isSome := by
  unfold enc
  rw [Maps.has_eq]
  unfold mget
  induction m with
  | nil => rfl
  | cons y m ih =>
    rw [List.map_cons, List.any_cons, List.find?_cons, show (encP y).1.sameKey (.int .i64 k) = (y.1 == k) from sameKey_int _ _]
    cases y.1 == k
    · exact ih
    · rfl
theorem size_enc (m : Tab) : Maps.size (enc m) = m.length := by
  unfold enc
  rw [Maps.size_eq, List.length_map]

theorem mget_nil (k : Int) : mget [] k = none := rfl
theorem mget_ins (x : Int × Value) (m : Tab) (k : Int) (h : ∀ p ∈ m, p.1 ≠ x.1) : mget (mins x m) k = if x.1 = k then some x.2 else mget m k := by
  induction m with
  | nil =>
    unfold mget mins
    simp only [List.find?_cons, List.find?_nil]
    by_cases e : x.1 = k
    · simp [e]
    · simp [e, beq_eq_false_iff_ne.2 e]
  | cons y m ih =>
    have ih := ih (fun p hp => h p (List.mem_cons_of_mem _ hp))
    have hy := h y List.mem_cons_self
    unfold mins
    split
    · unfold mget
      rw [List.find?_cons]
      by_cases e : x.1 = k
      · simp [e]
      · simp [e, beq_eq_false_iff_ne.2 e]
    · unfold mget at ih ⊢
      rw [List.find?_cons, List.find?_cons]
      by_cases e : y.1 = k
      · have : x.1 ≠ k := fun e' => hy (e.trans e'.symm)
        simp [e, this]
      · simp only [beq_eq_false_iff_ne.2 e]
        exact ih
theorem mget_del (m : Tab) (k j : Int) : mget (mdel m k) j = if k = j then none else mget m j := by
  unfold mget mdel
  by_cases e : k = j
  · subst e
    rw [if_pos rfl]
    have : (m.filter fun p => !(p.1 == k)).find? (fun p => p.1 == k) = none := by
      rw [List.find?_eq_none]
      intro p hp
      have := (List.mem_filter.1 hp).2
      simpa using this
    rw [this]; rfl
  · rw [if_neg e]
    congr 1
    induction m with
    | nil => rfl
    | cons y m ih =>
      rw [List.filter_cons]
      by_cases h : y.1 = k
      · have : ¬ y.1 = j := fun h' => e (h.symm.trans h')
        simp [h, ih, List.find?_cons, show ¬ k = j from e]
      · simp only [h, beq_eq_false_iff_ne.2 h, Bool.not_false, if_true, List.find?_cons]
        split
        · rfl
        · exact ih
theorem mdel_ne (m : Tab) (k : Int) : ∀ p ∈ mdel m k, p.1 ≠ k := by
  intro p hp
  have := (List.mem_filter.1 hp).2
  simpa using this
theorem mget_put (m : Tab) (k j : Int) (v : Value) : mget (mput m k v) j = if k = j then some v else mget m j := by
  unfold mput
  rw [mget_ins _ _ _ (mdel_ne m k), mget_del]
  by_cases e : k = j <;> simp [e]
theorem mget_mem {m : Tab} {k : Int} {v : Value} (h : mget m k = some v) : (k, v) ∈ m := by
  unfold mget at h
  cases hf : m.find? (fun p => p.1 == k) with
  | none => rw [hf] at h; cases h
  | some p =>
    rw [hf] at h
    have h1 := List.find?_some hf
    have h2 := List.mem_of_find?_eq_some hf
    obtain ⟨a, b⟩ := p
    simp at h h1
    subst h h1
    exact h2
theorem mget_none {m : Tab} {k : Int} (h : mget m k = none) : ∀ p ∈ m, p.1 ≠ k := by
  unfold mget at h
  intro p hp e
  have : m.find? (fun p => p.1 == k) = none := by
    cases hf : m.find? (fun p => p.1 == k) with
    | none => rfl
    | some q => rw [hf] at h; cases h
  have := List.find?_eq_none.1 this p hp
  simp [e] at this
def Rising (m : Tab) : Prop := m.Pairwise (fun p q => p.1 < q.1)
theorem Rising.del {m : Tab} (h : Rising m) (k : Int) : Rising (mdel m k) := List.Pairwise.filter _ h
theorem mem_ins (x : Int × Value) (m : Tab) (p : Int × Value) : p ∈ mins x m ↔ p = x ∨ p ∈ m := by
  induction m with
  | nil => simp [mins]
  | cons y m ih =>
    unfold mins
    split
    · simp
    · rw [List.mem_cons, ih, List.mem_cons]
      constructor
      · rintro (h | h | h)
        · exact .inr (.inl h)
        · exact .inl h
        · exact .inr (.inr h)
      · rintro (h | h | h)
        · exact .inr (.inl h)
        · exact .inl h
        · exact .inr (.inr h)
theorem length_ins (x : Int × Value) (m : Tab) : (mins x m).length = m.length + 1 := by
  induction m with
  | nil => rfl
  | cons y m ih =>
    unfold mins
    split
    · rfl
    · simp [ih]
theorem mget_of_mem {m : Tab} (h : Rising m) {p : Int × Value} (hp : p ∈ m) : mget m p.1 = some p.2 := by
  induction m with
  | nil => cases hp
  | cons y m ih =>
    obtain ⟨h1, h2⟩ := List.pairwise_cons.1 h
    unfold mget
    rw [List.find?_cons]
    rcases List.mem_cons.1 hp with e | hp
    · subst e; simp
    · have : y.1 ≠ p.1 := by have := h1 p hp; omega
      simp only [beq_eq_false_iff_ne.2 this]
      exact ih h2 hp
theorem mdel_of_none {m : Tab} {k : Int} (h : mget m k = none) : mdel m k = m := by
  unfold mdel
  rw [List.filter_eq_self]
  intro p hp
  have := mget_none h p hp
  simpa using this
theorem length_del {m : Tab} (h : Rising m) (k : Int) : (mdel m k).length + (if (mget m k).isSome then 1 else 0) = m.length := by
  induction m with
  | nil => rfl
  | cons y m ih =>
    obtain ⟨h1, h2⟩ := List.pairwise_cons.1 h
    unfold mdel mget
    rw [List.filter_cons, List.find?_cons]
    by_cases e : y.1 = k
    · have hn : mget m k = none := by
        cases hg : mget m k with
        | none => rfl
        | some v => have := h1 _ (mget_mem hg); simp at this; omega
      have := mdel_of_none hn
      unfold mdel at this
      simp [e, this]
    · have := ih h2
      unfold mdel mget at this
      simp only [e, beq_eq_false_iff_ne.2 e, Bool.not_false, if_true, List.length_cons]
      omega
theorem length_put {m : Tab} (h : Rising m) (k : Int) (v : Value) : (mput m k v).length = if (mget m k).isSome then m.length else m.length + 1 := by
  unfold mput
  rw [length_ins]
  have := length_del h k
  split
  · rename_i hs; rw [if_pos hs] at this; omega
  · rename_i hs; rw [if_neg hs] at this; omega
theorem length_put_le (m : Tab) (k : Int) (v : Value) : (mput m k v).length ≤ m.length + 1 := by
  unfold mput
  rw [length_ins]
  have := List.length_filter_le (fun p : Int × Value => !(p.1 == k)) m
  unfold mdel
  omega
theorem length_del_le (m : Tab) (k : Int) : (mdel m k).length ≤ m.length := List.length_filter_le _ _

section
variable {P : Program} {K : TypeId} {w : World} {b : Nat} {m : Tab}

/-- the bound on its entries is their number. -/
theorem IMap.of {n : Nat} (h : w.ownsMap P K heldE b n (enc m)) : IMap P K w b m := by
  obtain ⟨es, clock, hb, hf, hs, hd⟩ := h
  refine ⟨es, clock, hb, hf, ?_, hd⟩
  have h1 := congrArg Maps.size hd
  rw [size_enc, Maps.size_eq, length_sorted, List.length_map, Array.length_toList] at h1
  exact Nat.le_of_eq h1.symm
theorem IMap.lt (h : IMap P K w b m) : b < w.heap.size := World.ownsMap.lt h
theorem IMap.keep {w' : World} {p : Nat → Prop} (h : IMap P K w b m) (k : Keep p w w') (hp : p b) : IMap P K w' b m := by
  obtain ⟨es, clock, hb, hf, hs, hd⟩ := h
  exact ⟨es, clock, (k.block b hp).trans hb, hf, hs, hd⟩
theorem IMap.grown {w' : World} {row : Option Nat} (h : IMap P K w b m) (hg : w.grownBy w' row) (hne : some b ≠ row) : IMap P K w' b m := World.ownsMap.kept h hg hne
theorem IMap.made (P : Program) (K : TypeId) (w : World) : IMap P K (w.alloc (.map #[] 0)) w.heap.size [] := World.ownsMap_made w P K heldE
theorem IMap.notCells (h : IMap P K w b m) {o : Obj} (ho : w.heap[b]? = some o) : o.isCells = false := by
  obtain ⟨es, clock, hb, _⟩ := h
  rw [hb] at ho; cases ho; rfl
theorem IMap.rising (h : IMap P K w b m) (hK : Keyed P K) : Rising m := by
  obtain ⟨es, he, hp, _⟩ := World.ownsMap.canon h hK
  unfold enc at he
  injection he with he
  subst he
  rw [List.pairwise_map] at hp
  exact hp.imp (fun {p q} h => by simpa [encP, before_int] using h)

section
variable {T E : TypeId} (hK : Keyed P K) (hT : P.underlying T = some (.map K E)) {key : Int} (hkey : keyOf P K (.int .i64 key) = some (.int .i64 key))
include hK hT hkey
/-- v, ok := m[k]. -/
theorem IMap.look_ok (h : IMap P K w b m) {z : Value} (hz : (zeroValue E).run P w = .ok z w) :
    (Instr.lookup T (.map (some b)) (.int .i64 key) true).run P w = .ok (.tuple #[(mget m key).getD z, .bool (mget m key).isSome]) w := by
  obtain ⟨v, ps, hr, hv⟩ := World.ownsMap.look_ok h hK hT hz (zd := .held z) (zp := []) rfl hkey
  rw [atKey_enc] at hv
  rw [has_enc] at hr
  simp only [heldE, Option.some.injEq, Prod.mk.injEq, DataW.held.injEq] at hv
  rw [hr, hv.1]
/-- v := m[k]. -/
theorem IMap.look (h : IMap P K w b m) {z : Value} (hz : (zeroValue E).run P w = .ok z w) :
    (Instr.lookup T (.map (some b)) (.int .i64 key) false).run P w = .ok ((mget m key).getD z) w := by
  obtain ⟨v, ps, hr, hv⟩ := World.ownsMap.lookup h hK hT hz (zd := .held z) (zp := []) rfl hkey
  rw [atKey_enc] at hv
  simp only [heldE, Option.some.injEq, Prod.mk.injEq, DataW.held.injEq] at hv
  rw [hr, hv.1]
/-- m[k] = v. -/
theorem IMap.store (h : IMap P K w b m) (hn : m.length < maxLen) (v : Value) :
    ∃ w', (Instr.mapUpdate T (.map (some b)) (.int .i64 key) v).run P w = .ok () w' ∧ IMap P K w' b (mput m key v) ∧ w.grownBy w' (some b) := by
  obtain ⟨w', hr, ho, hg⟩ := World.ownsMap.update h hK hT hn hkey (val := v) (d := .held v) (ps := []) rfl
  rw [enc_put] at ho
  exact ⟨w', hr, IMap.of ho, hg⟩
/-- delete(m, k). -/
theorem IMap.drop (h : IMap P K w b m) (ty : TypeId) :
    ∃ w', (Builtin.delete_ #[T, K] ty #[.map (some b), .int .i64 key]).run P w = .ok (.tuple #[]) w' ∧ IMap P K w' b (mdel m key) ∧ w.grownBy w' (some b) := by
  obtain ⟨w', hr, ho, hg⟩ := World.ownsMap.drop h hK hT hkey ty
  rw [enc_del] at ho
  exact ⟨w', hr, IMap.of ho, hg.grown⟩
end
/-- len(m). -/
theorem IMap.len {T E : TypeId} (hT : P.underlying T = some (.map K E)) (h : IMap P K w b m) (ty : TypeId) : (Builtin.len_ #[T] ty #[.map (some b)]).run P w = .ok (.int .i64 m.length) w := by
  have := World.ownsMap.len h hT ty
  rwa [size_enc] at this
end

section
variable {P : Program} {K : TypeId} {w : World} {ops : Array Oper} {rest : List Oper} {o : Oper} {a : Act} {Q : Exit → Act → World → Prop}
theorem wpList_ilen (hg : o.guard = none) (x : Operand) (T E : TypeId) (hop : o.op = .call { callee := .builtin .len, args := #[x], argTypes := #[T] }) (hT : P.underlying T = some (.map K E)) (b : Nat) (m : Tab) (hm : a.eval x = .map (some b)) (h : IMap P K w b m)
    (hk : wpList P ops Q rest (a.put o.dst (.int .i64 m.length)) w) : wpList P ops Q (o :: rest) a w :=
  wpList_len_own w hg x T hop K E hT heldE b _ _ hm h (by rw [size_enc]; exact hk)
theorem wpList_ilook_ok (hg : o.guard = none) (x y : Operand) (T E : TypeId) (hop : o.op = .lookup T x y true) (hK : Keyed P K) (hT : P.underlying T = some (.map K E)) (b : Nat) (m : Tab) (hm : a.eval x = .map (some b)) (h : IMap P K w b m)
    (key : Int) (hy : a.eval y = .int .i64 key) (hkey : keyOf P K (.int .i64 key) = some (.int .i64 key)) (z : Value) (hz : (zeroValue E).run P w = .ok z w)
    (hk : wpList P ops Q rest (a.put o.dst (.tuple #[(mget m key).getD z, .bool (mget m key).isSome])) w) : wpList P ops Q (o :: rest) a w := by
  refine wpList_plain hg fun K' hK' => ?_
  have hr := h.look_ok hK hT hkey hz
  unfold Oper.wp
  simp [execOp, hop, hm, hy, hr, Result.andThen]
  exact hK' _ _ hk
theorem wpList_ilook (hg : o.guard = none) (x y : Operand) (T E : TypeId) (hop : o.op = .lookup T x y false) (hK : Keyed P K) (hT : P.underlying T = some (.map K E)) (b : Nat) (m : Tab) (hm : a.eval x = .map (some b)) (h : IMap P K w b m)
    (key : Int) (hy : a.eval y = .int .i64 key) (hkey : keyOf P K (.int .i64 key) = some (.int .i64 key)) (z : Value) (hz : (zeroValue E).run P w = .ok z w)
    (hk : wpList P ops Q rest (a.put o.dst ((mget m key).getD z)) w) : wpList P ops Q (o :: rest) a w := by
  refine wpList_plain hg fun K' hK' => ?_
  have hr := h.look hK hT hkey hz
  unfold Oper.wp
  simp [execOp, hop, hm, hy, hr, Result.andThen]
  exact hK' _ _ hk
theorem wp_ilook {K0 : Act → World → Prop} (x y : Operand) (T E : TypeId) (hop : o.op = .lookup T x y false) (hK : Keyed P K) (hT : P.underlying T = some (.map K E)) (b : Nat) (m : Tab) (hm : a.eval x = .map (some b)) (h : IMap P K w b m)
    (key : Int) (hy : a.eval y = .int .i64 key) (hkey : keyOf P K (.int .i64 key) = some (.int .i64 key)) (z : Value) (hz : (zeroValue E).run P w = .ok z w)
    (hk : K0 (a.put o.dst ((mget m key).getD z)) w) : o.wp P a w K0 Q := by
  have hr := h.look hK hT hkey hz
  unfold Oper.wp
  simp [execOp, hop, hm, hy, hr, Result.andThen]
  exact hk
theorem wp_istore {K0 : Act → World → Prop} (x y z : Operand) (T E : TypeId) (hop : o.op = .mapUpdate T x y z) (hK : Keyed P K) (hT : P.underlying T = some (.map K E)) (b : Nat) (m : Tab) (hm : a.eval x = .map (some b)) (h : IMap P K w b m) (hn : m.length < maxLen)
    (key : Int) (hy : a.eval y = .int .i64 key) (hkey : keyOf P K (.int .i64 key) = some (.int .i64 key)) (v : Value) (hz : a.eval z = v)
    (hk : ∀ w', IMap P K w' b (mput m key v) → w.grownBy w' (some b) → K0 (a.put o.dst undef) w') : o.wp P a w K0 Q := by
  obtain ⟨w', hr, r1, r2⟩ := h.store hK hT hkey hn v
  unfold Oper.wp
  simp [execOp, hop, hm, hy, hz, hr, Result.andThen]
  exact hk w' r1 r2
theorem wpList_istore (hg : o.guard = none) (x y z : Operand) (T E : TypeId) (hop : o.op = .mapUpdate T x y z) (hK : Keyed P K) (hT : P.underlying T = some (.map K E)) (b : Nat) (m : Tab) (hm : a.eval x = .map (some b)) (h : IMap P K w b m) (hn : m.length < maxLen)
    (key : Int) (hy : a.eval y = .int .i64 key) (hkey : keyOf P K (.int .i64 key) = some (.int .i64 key)) (v : Value) (hz : a.eval z = v)
    (hk : ∀ w', IMap P K w' b (mput m key v) → w.grownBy w' (some b) → wpList P ops Q rest (a.put o.dst undef) w') : wpList P ops Q (o :: rest) a w :=
  wpList_plain hg fun _ hK' => wp_istore x y z T E hop hK hT b m hm h hn key hy hkey v hz (fun w' h1 h2 => hK' _ _ (hk w' h1 h2))
theorem wpList_idel (hg : o.guard = none) (x y : Operand) (T E : TypeId) (hop : o.op = .call { callee := .builtin .delete, args := #[x, y], argTypes := #[T, K] }) (hK : Keyed P K) (hT : P.underlying T = some (.map K E)) (b : Nat) (m : Tab) (hm : a.eval x = .map (some b)) (h : IMap P K w b m)
    (key : Int) (hy : a.eval y = .int .i64 key) (hkey : keyOf P K (.int .i64 key) = some (.int .i64 key))
    (hk : ∀ w', IMap P K w' b (mdel m key) → w.grownBy w' (some b) → wpList P ops Q rest (a.put o.dst (.tuple #[])) w') : wpList P ops Q (o :: rest) a w := by
  refine wpList_plain hg fun K' hK' => ?_
  obtain ⟨w', hr, r1, r2⟩ := h.drop hK hT hkey o.type
  unfold Oper.wp
  simp [execOp, hop, resolve, invoke, builtin, hm, hy, hr, Result.andThen]
  exact hK' _ _ (hk w' r1 r2)
end
end Go.Proofs.Mp
