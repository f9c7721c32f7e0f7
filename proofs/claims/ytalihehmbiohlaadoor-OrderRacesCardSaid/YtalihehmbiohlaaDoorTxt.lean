/-
  A region that draws its order, walked once, in the order of its text. Each operation is of one of two kinds, told by a list: FREE: it yields one value in every world that meets S, and leaves the world alone · CHAINED: it may do anything that keeps S; of two chained operations the later one waits for the earlier one. An operation that does not wait for an earlier one looks at nothing that the other one writes.
-/
import Derived.OrdersHeld
import Derived.KernelRfl
import Derived.Deep.Draws
namespace Go.Proofs.Txt
open Go
section
variable {P : Program} {ops : Array Oper} {S : World → Prop} {Q : Exit → Act → World → Prop}

/-- no way out but the plain one. -/
def NoWay : Exit → Act → World → Prop := fun _ _ _ => False

/-- what an operation that was carried out has left. -/
def Left (o : Oper) (a : Act) (K : Act → World → Prop) : Prop := ∃ (ds : List Deferred) (u : Value) (w' : World), K (({ a with defers := ds } : Act).put o.dst u) w'

theorem wp_left {o : Oper} {a : Act} {w : World} {K : Act → World → Prop} (h : o.wp P a w K NoWay) : Left o a K := by
  unfold Oper.wp at h
  generalize (execOp a.eval o).run P w = r at h
  cases r with
  | ok n w' =>
    cases n <;> simp only [Oper.upon] at h
    case value v => exact ⟨a.defers, v, w', h⟩
    case skip => exact ⟨a.defers, undef, w', h⟩
    case defer d => exact ⟨d :: a.defers, undef, w', h⟩
    case enter f args =>
      obtain ⟨e, w'', _, hR, _⟩ := h []
      cases e with
      | returned v => exact ⟨a.defers, v, w'', hR⟩
      | panicked c => exact hR.elim
      | outgrown => obtain ⟨_, _, hq⟩ := hR; exact hq.elim
    case row row args =>
      obtain ⟨v, w'', hR, _⟩ := h default []
      exact ⟨a.defers, v, w'', hR⟩
  | halt x w' => cases x <;> simp only [Oper.upon] at h; all_goals exact h.elim

theorem wpOp_left {j : Nat} {oj : Oper} (hj : ops[j]? = some oj) {a : Act} {w : World} {K : Act → World → Prop} (h : wpOp P ops NoWay j K a w) : Left oj a K := by
  unfold wpOp at h
  simp only [hj] at h
  split at h
  · rcases h with h | ⟨_, _, _, hq⟩
    · exact wp_left h
    · exact hq.elim
  · exact ⟨a.defers, undef, w, h⟩

theorem wp_exits {o : Oper} {a : Act} {w : World} {K : Act → World → Prop} (h : o.wp P a w K NoWay) : o.wp P a w K Q := by
  unfold Oper.wp at *
  generalize (execOp a.eval o).run P w = r at *
  cases r with
  | ok n w' =>
    cases n <;> simp only [Oper.upon] at h ⊢
    case enter f args =>
      refine h.mono fun e w'' he => ?_
      cases e with
      | returned v => exact he
      | panicked c => exact he.elim
      | outgrown => obtain ⟨_, _, hq⟩ := he; exact hq.elim
    all_goals exact h
  | halt x w' => cases x <;> simp only [Oper.upon] at h ⊢; all_goals exact h.elim

theorem wpOp_exits {j : Nat} {a : Act} {w : World} {K : Act → World → Prop} (h : wpOp P ops NoWay j K a w) : wpOp P ops Q j K a w := by
  unfold wpOp at *
  split
  · simpa [*] using h
  · rename_i o ho
    simp only [ho] at h
    split
    · rename_i hw
      simp only [hw, if_true] at h
      rcases h with h | ⟨_, _, _, hq⟩
      · exact .inl (wp_exits h)
      · exact hq.elim
    · rename_i hw
      simpa [hw] using h

theorem put_withDefers (a : Act) (x : Option Tmp) (v : Value) (ds : List Deferred) : ({ a.put x v with defers := ds } : Act) = ({ a with defers := ds } : Act).put x v := by
  cases x <;> rfl

/-- 'oj' is carried out with 'oi''s value already in its place. -/
theorem wpOp_carry {j : Nat} {oi oj : Oper} {v : Value} (hj : ops[j]? = some oj) (hap : oi.apart ops oj = true) (hsj : ∀ cs b, oj.op ≠ .select cs b) {a : Act} {w : World} {K K' : Act → World → Prop}
    (hK : ∀ (ds : List Deferred) (u : Value) (w' : World), K (({ a with defers := ds } : Act).put oj.dst u) w' → K' ((({ a with defers := ds } : Act).put oj.dst u).put oi.dst v) w')
    (h : wpOp P ops NoWay j K a w) : wpOp P ops NoWay j K' (a.put oi.dst v) w := by
  obtain ⟨h1, h2, h3⟩ := Oper.apart_spec hap
  unfold wpOp at *
  simp only [hj] at *
  rw [wanted_put oj a oi.dst v h1]
  have e0 : ({ a with defers := a.defers } : Act) = a := rfl
  split
  · rename_i hw
    simp only [hw, if_true] at h
    rcases h with h | ⟨_, _, _, hq⟩
    case inr => exact hq.elim
    refine .inl ?_
    unfold Oper.wp at *
    rw [execOp_put oj hsj a oi.dst v h1]
    generalize (execOp a.eval oj).run P w = r at *
    cases r with
    | ok n w' =>
      cases n <;> simp only [Oper.upon] at h ⊢
      case value u => rw [Act.put_comm a v u h2]; exact hK a.defers u w' h
      case skip => rw [Act.put_comm a v undef h2]; exact hK a.defers undef w' h
      case defer d =>
        have := hK (d :: a.defers) undef w' h
        rw [← Act.put_comm _ v undef h2] at this
        rw [put_withDefers]
        rwa [show (a.put oi.dst v).defers = a.defers by cases oi.dst <;> rfl]
      case enter f args =>
        refine h.mono fun e w'' he => ?_
        cases e with
        | returned u => show K' _ _; rw [Act.put_comm a v u h2]; exact hK a.defers u w'' he
        | panicked c => exact he
        | outgrown => exact he
      case row row args => exact Rows.mono h fun u w'' he => by rw [Act.put_comm a v u h2]; exact hK a.defers u w'' he
    | halt x w' => cases x <;> simp only [Oper.upon] at h ⊢; all_goals exact h.elim
  · rename_i hw
    simp only [hw] at h
    show K' _ _
    rw [Act.put_comm a v undef h2]
    exact hK a.defers undef w h

theorem yields_unique {o : Oper} {u v : Value} {a : Act} {w : World} (hS : S w) (h1 : YieldsIf P ops S o u a) (h2 : YieldsIf P ops S o v a) : u = v := by
  rcases h1 with ⟨w1, r1⟩ | ⟨w1, rfl⟩ <;> rcases h2 with ⟨w2, r2⟩ | ⟨w2, rfl⟩
  · have := (r1 w hS).symm.trans (r2 w hS)
    simpa using this
  · rw [w1] at w2; cases w2
  · rw [w1] at w2; cases w2
  · rfl

/-- the walk in the order of the text: indices that are left. -/
def walk (P : Program) (ops : Array Oper) (S : World → Prop) (Q : Exit → Act → World → Prop) (free : Nat → Bool) : List Nat → Act → World → Prop
  | [], a, w => Q .normal a w
  | i :: l, a, w => match ops[i]? with
    | none => False
    | some o => if free i then ∃ v, YieldsIf P ops S o v a ∧ walk P ops S Q free l (a.put o.dst v) w
      else wpOp P ops NoWay i (fun a' w' => (i + 1 = ops.size ∨ S w') ∧ walk P ops S Q free l a' w') a w

/-- two operations of which the later one (i) doesn't wait for the earlier one (j). -/
def Loose (ops : Array Oper) (free : Nat → Bool) (j i : Nat) : Prop :=
  ∀ oj oi, ops[j]? = some oj → ops[i]? = some oi → if free i then oi.apart ops oj = true else (i + 1 ≠ ops.size ∧ free j = true ∧ oj.apart ops oi = true)

theorem bring_free {free : Nat → Bool} (hsel : Region.noSelect ops = true) {i : Nat} {oi : Oper} (hi : ops[i]? = some oi) (hfi : free i = true) (l2 : List Nat) :
    ∀ (l1 : List Nat) (a : Act) (w : World), S w → (∀ j, j ∈ l1 → j + 1 ≠ ops.size ∧ Loose ops free j i) → walk P ops S Q free (l1 ++ i :: l2) a w →
      ∃ v, YieldsIf P ops S oi v a ∧ walk P ops S Q free (l1 ++ l2) (a.put oi.dst v) w := by
  intro l1
  induction l1 with
  | nil =>
    intro a w _ _ h
    simp only [List.nil_append, walk, hi, hfi, if_true] at h
    exact h
  | cons j l1 ih =>
    intro a w hS hl h
    have hl' : ∀ k, k ∈ l1 → k + 1 ≠ ops.size ∧ Loose ops free k i := fun k hk => hl k (by simp [hk])
    have hjl := (hl j (by simp)).1
    simp only [List.cons_append, walk] at h
    cases hj : ops[j]? with
    | none => simp only [hj] at h
    | some oj =>
      simp only [hj] at h
      have hap : oi.apart ops oj = true := by have := (hl j (by simp)).2 oj oi hj hi; simpa [hfi] using this
      obtain ⟨p1, p2, p3⟩ := Oper.apart_spec hap
      have hsi : ∀ cs b, oi.op ≠ .select cs b := fun cs b => Region.noSelect_spec hsel i oi cs b hi
      have hsj : ∀ cs b, oj.op ≠ .select cs b := fun cs b => Region.noSelect_spec hsel j oj cs b hj
      have back : ∀ (a : Act) (u v : Value), YieldsIf P ops S oi v (a.put oj.dst u) → YieldsIf P ops S oi v a := fun a u v hy =>
        hy.of_same (execOp_put oi hsi a oj.dst u p3).symm (wanted_put oi a oj.dst u p3).symm
      by_cases hfj : free j = true
      · rw [if_pos hfj] at h
        obtain ⟨u, hu, h⟩ := h
        obtain ⟨v, hv, h⟩ := ih _ w hS hl' h
        refine ⟨v, back a u v hv, ?_⟩
        simp only [List.cons_append, walk, hj, if_pos hfj]
        refine ⟨u, hu.of_same (execOp_put oj hsj a oi.dst v p1) (wanted_put oj a oi.dst v p1), ?_⟩
        rwa [Act.put_comm a v u p2]
      · rw [if_neg hfj] at h
        obtain ⟨ds, u, w', hS', hk⟩ := wpOp_left hj h
        have hS' := hS'.resolve_left hjl
        obtain ⟨v, hv, _⟩ := ih _ w' hS' hl' hk
        have hv0 : YieldsIf P ops S oi v a := (back _ u v hv).of_same rfl rfl
        refine ⟨v, hv0, ?_⟩
        simp only [List.cons_append, walk, hj, if_neg hfj]
        refine wpOp_carry hj hap hsj (fun ds u w' hk => ?_) h
        obtain ⟨hS', hk⟩ := hk
        have hS' := hS'.resolve_left hjl
        obtain ⟨v', hv', hk'⟩ := ih _ w' hS' hl' hk
        have : v' = v := yields_unique hS ((back _ u v' hv').of_same rfl rfl) hv0
        subst this
        exact ⟨.inr hS', hk'⟩

theorem bring_chained {free : Nat → Bool} (hsel : Region.noSelect ops = true) {i : Nat} {oi : Oper} (hi : ops[i]? = some oi) (hfi : free i = false) (l2 : List Nat) :
    ∀ (l1 : List Nat) (a : Act) (w : World), (∀ j, j ∈ l1 → Loose ops free j i) → walk P ops S Q free (l1 ++ i :: l2) a w →
      wpOp P ops NoWay i (fun a' w' => (i + 1 = ops.size ∨ S w') ∧ walk P ops S Q free (l1 ++ l2) a' w') a w := by
  intro l1
  induction l1 with
  | nil =>
    intro a w _ h
    simpa only [List.nil_append, walk, hi, hfi, Bool.false_eq_true, if_false] using h
  | cons j l1 ih =>
    intro a w hl h
    have hl' : ∀ k, k ∈ l1 → Loose ops free k i := fun k hk => hl k (by simp [hk])
    simp only [List.cons_append, walk] at h
    cases hj : ops[j]? with
    | none => simp only [hj] at h
    | some oj =>
      simp only [hj] at h
      have hlo := hl j (by simp) oj oi hj hi
      rw [hfi] at hlo
      simp only [Bool.false_eq_true, if_false] at hlo
      obtain ⟨_, hfj, hap⟩ := hlo
      rw [if_pos hfj] at h
      obtain ⟨u, hu, h⟩ := h
      have h := ih _ w hl' h
      have h := wpOp_putIf hi hap (fun cs b => Region.noSelect_spec hsel j oj cs b hj) (fun cs b => Region.noSelect_spec hsel i oi cs b hi) (fun _ _ _ hq => hq) hu h
      refine wpOp_mono (fun a' w' hk => ⟨hk.2.1, ?_⟩) h
      simp only [List.cons_append, walk, hj, if_pos hfj]
      exact ⟨u, hk.1, hk.2.2⟩

/-- what an operation waits for, as bits. -/
def waits (B : List Nat) (i j : Nat) : Bool := decide (j < i) && (B.getD i 0).testBit j
/-- the bits say no more than the edges do; an edge goes to an earlier operation. -/
def bitsOk (ops : Array Oper) (B : List Nat) : Bool := (List.range ops.size).all fun i => match ops[i]? with
  | none => false
  | some o => o.after.toList.all (fun e => !Region.binds .any e || decide (e.on < i)) &&
    (List.range i).all fun j => !waits B i j || o.after.toList.any fun e => Region.binds .any e && (e.on == j || (decide (e.on < i) && waits B e.on j))
/-- of two operations the later one waits for the earlier one, or they are loose. -/
def looseOk (ops : Array Oper) (free : List Bool) (B : List Nat) : Bool := (List.range ops.size).all fun i => (List.range i).all fun j => waits B i j || match ops[i]?, ops[j]? with
  | some oi, some oj => if free.getD i false then oi.apart ops oj else decide (i + 1 ≠ ops.size) && (free.getD j false && oj.apart ops oi)
  | _, _ => false
def ok (ops : Array Oper) (free : List Bool) (B : List Nat) : Bool := Region.noSelect ops && bitsOk ops B && looseOk ops free B

/-- all that a listed operation waits for is listed. -/
def Closed (ops : Array Oper) (listed : Array Bool) : Prop := ∀ j oj, ops[j]? = some oj → listed.getD j false = true → ∀ e ∈ oj.after, Region.binds .any e = true → listed.getD e.on false = true

theorem waits_listed {B : List Nat} (hB : bitsOk ops B = true) {listed : Array Bool} (hc : Closed ops listed) (i : Nat) :
    ∀ oi, ops[i]? = some oi → (∀ e ∈ oi.after, Region.binds .any e = true → listed.getD e.on false = true) → ∀ j, j < i → waits B i j = true → listed.getD j false = true := by
  induction i using Nat.strongRecOn with
  | _ i ih =>
    intro oi hi hall j hji hw
    have h1 := List.all_eq_true.1 hB i (List.mem_range.2 (Array.getElem?_eq_some_iff.1 hi).1)
    simp only [hi, Bool.and_eq_true] at h1
    have h2 := List.all_eq_true.1 h1.2 j (List.mem_range.2 hji)
    simp only [hw, Bool.not_true, Bool.false_or] at h2
    obtain ⟨e, he, h3⟩ := List.any_eq_true.1 h2
    simp only [Bool.and_eq_true, Bool.or_eq_true, beq_iff_eq, decide_eq_true_eq] at h3
    obtain ⟨hb, h3⟩ := h3
    have hle := hall e (by simpa using he) hb
    rcases h3 with h3 | ⟨hlt, h3⟩
    · rw [← h3]; exact hle
    · have hsz : e.on < ops.size := Nat.lt_trans hlt (Array.getElem?_eq_some_iff.1 hi).1
      have hj : j < e.on := by
        simp only [waits, Bool.and_eq_true, decide_eq_true_eq] at h3
        exact h3.1
      exact ih e.on hlt _ (Array.getElem?_eq_getElem hsz) (fun e' he' hb' => hc e.on _ (Array.getElem?_eq_getElem hsz) hle e' he' hb') j hj h3

/-- the operations that are not listed yet, in the order of the text. -/
def todo (ops : Array Oper) (listed : Array Bool) : List Nat := (List.range ops.size).filter fun i => !listed.getD i true

theorem todo_split {listed : Array Bool} (hsz : listed.size = ops.size) {i : Nat} (hi : listed.getD i true = false) :
    ∃ l1 l2, todo ops listed = l1 ++ i :: l2 ∧ todo ops (listed.setIfInBounds i true) = l1 ++ l2 ∧ (∀ j, j ∈ l1 → j < i ∧ listed.getD j true = false) := by
  have hlt : i < ops.size := by
    rcases Nat.lt_or_ge i ops.size with h | h
    · exact h
    · rw [Array.getD_eq_getD_getElem?, Array.getElem?_eq_none (by omega)] at hi; cases hi
  have e : List.range ops.size = List.range i ++ (i :: (List.range (ops.size - i - 1)).map (· + (i + 1))) := by
    have h1 : List.range ops.size = List.range (i + (1 + (ops.size - i - 1))) := by congr 1; omega
    rw [h1, List.range_add, List.range_add]
    simp only [List.range_one, List.map_cons, Nat.add_zero, List.map_map, List.cons_append, List.nil_append]
    congr 2
    apply List.map_congr_left
    intro x _
    simp only [Function.comp]
    omega
  refine ⟨(List.range i).filter (fun j => !listed.getD j true), ((List.range (ops.size - i - 1)).map (· + (i + 1))).filter (fun j => !listed.getD j true), ?_, ?_, ?_⟩
  · unfold todo
    rw [e, List.filter_append, List.filter_cons_of_pos (by simp [hi])]
  · unfold todo
    have hset : (listed.setIfInBounds i true).getD i true = true := by
      simp [Array.getD_eq_getD_getElem?]
    rw [e, List.filter_append, List.filter_cons_of_neg (by rw [hset]; decide)]
    congr 1
    · apply List.filter_congr
      intro j hj
      rw [getD_set_ne true (by have := List.mem_range.1 hj; omega)]
    · apply List.filter_congr
      intro j hj
      obtain ⟨x, _, rfl⟩ := List.mem_map.1 hj
      rw [getD_set_ne true (by omega)]
  · intro j hj
    obtain ⟨h1, h2⟩ := List.mem_filter.1 hj
    exact ⟨List.mem_range.1 h1, by simpa using h2⟩

theorem unlisted {listed : Array Bool} {j : Nat} (h : listed.getD j true = false) : listed.getD j false = false := by
  rw [Array.getD_eq_getD_getElem?] at *
  cases hq : listed[j]? with
  | none => rw [hq] at h; cases h
  | some b => rw [hq] at h; simpa using h

theorem any_of_walk {free : List Bool} {B : List Nat} (hok : ok ops free B = true) (n : Nat) : ∀ (listed : Array Bool) (a : Act) (w : World), listed.size = ops.size → Closed ops listed → (todo ops listed).length = n → (todo ops listed = [] ∨ S w) →
    walk P ops S Q (fun i => free.getD i false) (todo ops listed) a w → wpAny P .any ops Q n listed a w := by
  simp only [ok, Bool.and_eq_true] at hok
  obtain ⟨⟨hsel, hB⟩, hL⟩ := hok
  have hnone : ∀ listed : Array Bool, listed.size = ops.size → Closed ops listed → todo ops listed = [] → Region.ready .any ops listed = [] := by
    intro listed hsz _ h0
    apply List.eq_nil_iff_forall_not_mem.2
    intro i hi
    obtain ⟨h1, _⟩ := mem_ready.1 hi
    obtain ⟨l1, l2, h2, _⟩ := todo_split hsz h1
    rw [h0] at h2
    cases l1 <;> cases h2
  induction n with
  | zero =>
    intro listed a w hsz hc hn hS h
    have h0 : todo ops listed = [] := List.eq_nil_of_length_eq_zero hn
    rw [h0] at h
    exact ⟨hnone listed hsz hc h0, h⟩
  | succ n ih =>
    intro listed a w hsz hc hn hS h
    have hS : S w := hS.resolve_left (fun h0 => by rw [h0] at hn; cases hn)
    refine ⟨fun hr => ?_, fun i hi => ?_⟩
    · exfalso
      -- the first operation that is left may come up
      cases ht : todo ops listed with
      | nil => rw [ht] at hn; cases hn
      | cons i l =>
        have hmem : i ∈ todo ops listed := by rw [ht]; simp
        obtain ⟨hir, hiu⟩ := List.mem_filter.1 hmem
        have hiu' : listed.getD i true = false := by simpa using hiu
        obtain ⟨l1, l2, h2, _, h3⟩ := todo_split hsz hiu'
        have hl1 : l1 = [] := by
          cases l1 with
          | nil => rfl
          | cons x l1 =>
            exfalso
            rw [ht, List.cons_append] at h2
            have hx := (h3 x (by simp)).1
            injection h2 with h4 _
            omega
        have hsmall : ∀ j, j < i → listed.getD j false = true := by
          intro j hj
          cases hq : listed.getD j true with
          | true =>
            have hjs : j < listed.size := by have := List.mem_range.1 hir; omega
            rw [Array.getD_eq_getD_getElem?, Array.getElem?_eq_getElem hjs] at *
            simpa using hq
          | false =>
            exfalso
            obtain ⟨m1, m2, h5, _, _⟩ := todo_split hsz hq
            have hj2 : j ∈ todo ops listed := by rw [h5]; simp
            rw [h2, hl1, List.nil_append] at hj2
            rw [h2, hl1, List.nil_append] at h5
            have hsorted : (todo ops listed).Pairwise (· < ·) := List.Pairwise.filter _ List.pairwise_lt_range
            rw [h2, hl1, List.nil_append] at hsorted
            rcases List.mem_cons.1 hj2 with h6 | h6
            · omega
            · have := (List.pairwise_cons.1 hsorted).1 j h6
              omega
        have hlt := List.mem_range.1 hir
        have hready : i ∈ Region.ready .any ops listed := mem_ready.2 ⟨hiu', ops[i], Array.getElem?_eq_getElem hlt, fun e he hb => by
          have h1 := List.all_eq_true.1 hB i hir
          simp only [Array.getElem?_eq_getElem hlt, Bool.and_eq_true] at h1
          have h2 := List.all_eq_true.1 h1.1 e (by simpa using he)
          simp only [hb, Bool.not_true, Bool.false_or, decide_eq_true_eq] at h2
          exact hsmall e.on h2⟩
        rw [hr] at hready
        cases hready
    · obtain ⟨hiu, oi, hoi, hall⟩ := mem_ready.1 hi
      obtain ⟨l1, l2, h2, h3, h4⟩ := todo_split hsz hiu
      have hloose : ∀ j, j ∈ l1 → Loose ops (fun i => free.getD i false) j i := by
        intro j hj oj oi' hoj hoi'
        obtain rfl : oi' = oi := Option.some.inj (hoi'.symm.trans hoi)
        obtain ⟨hji, hju⟩ := h4 j hj
        have h5 := List.all_eq_true.1 (List.all_eq_true.1 hL i (List.mem_range.2 (Array.getElem?_eq_some_iff.1 hoi).1)) j (List.mem_range.2 hji)
        simp only [hoi, hoj, Bool.or_eq_true] at h5
        rcases h5 with h5 | h5
        · have := waits_listed hB hc i _ hoi hall j hji h5
          rw [unlisted hju] at this
          cases this
        · by_cases hf : free.getD i false = true
          · simp only [hf, if_true] at h5 ⊢; exact h5
          · simp only [hf, Bool.false_eq_true, if_false, Bool.and_eq_true, decide_eq_true_eq] at h5 ⊢; exact h5
      rw [h2] at h
      have hsz' : (listed.setIfInBounds i true).size = ops.size := by simpa using hsz
      have hc' : Closed ops (listed.setIfInBounds i true) := by
        intro j oj hoj hl e he hb
        by_cases hji : i = j
        · subst hji
          obtain rfl : oj = oi := Option.some.inj (hoj.symm.trans hoi)
          exact getD_set_true (hall e he hb)
        · rw [getD_set_ne false hji] at hl
          exact getD_set_true (hc j oj hoj hl e he hb)
      have hn' : (todo ops (listed.setIfInBounds i true)).length = n := by
        rw [h3]
        rw [h2] at hn
        simp only [List.length_append, List.length_cons] at hn ⊢
        omega
      by_cases hf : free.getD i false = true
      · obtain ⟨v, hv, hw⟩ := bring_free hsel hoi hf l2 l1 a w hS (fun j hj => ⟨by have := (h4 j hj).1; have := (Array.getElem?_eq_some_iff.1 hoi).1; omega, hloose j hj⟩) h
        refine hv.wpOp hoi hS ?_
        exact ih _ _ _ hsz' hc' hn' (.inr hS) (by rw [h3]; exact hw)
      · have := bring_chained hsel hoi (by simpa using hf) l2 l1 a w hloose h
        refine wpOp_exits (wpOp_mono (fun a' w' hk => ?_) this)
        refine ih _ _ _ hsz' hc' hn' ?_ (by rw [h3]; exact hk.2)
        rcases hk.1 with hlast | hS'
        · left
          rw [h3]
          have e1 : l1 = [] := by
            cases l1 with
            | nil => rfl
            | cons j l1 =>
              exfalso
              obtain ⟨hji, _⟩ := h4 j (by simp)
              have hoj := Array.getElem?_eq_getElem (xs := ops) (i := j) (by have := (Array.getElem?_eq_some_iff.1 hoi).1; omega)
              have := hloose j (by simp) _ oi hoj hoi
              simp only [hf, Bool.false_eq_true, if_false] at this
              exact this.1 hlast
          have e2 : l2 = [] := by
            cases l2 with
            | nil => rfl
            | cons j l2 =>
              exfalso
              have hsorted : (todo ops listed).Pairwise (· < ·) := List.Pairwise.filter _ List.pairwise_lt_range
              rw [h2, e1, List.nil_append] at hsorted
              have h6 := (List.pairwise_cons.1 hsorted).1 j (by simp)
              have hmem : j ∈ todo ops listed := by rw [h2]; simp
              have := List.mem_range.1 (List.mem_filter.1 hmem).1
              omega
          rw [e1, e2]; rfl
        · exact .inr hS'

/-- the walk in the order of the text: operations, each with its kind. -/
def text (P : Program) (ops : Array Oper) (S : World → Prop) (Q : Exit → Act → World → Prop) : List Oper → List Bool → Act → World → Prop
  | o :: l, true :: m, a, w => ∃ v, YieldsIf P ops S o v a ∧ text P ops S Q l m (a.put o.dst v) w
  | o :: l, false :: m, a, w => if Region.wanted o (yielded ops a.tmps) then o.wp P a w (fun a' w' => (l = [] ∨ S w') ∧ text P ops S Q l m a' w') NoWay else (l = [] ∨ S w) ∧ text P ops S Q l m (a.put o.dst undef) w
  | [], _, a, w => Q .normal a w
  | _ :: _, [], _, _ => False

theorem walk_of_text {free : List Bool} (l : List Oper) : ∀ (k : Nat) (a : Act) (w : World), (∀ j, l[j]? = ops[k + j]?) → text P ops S Q l (free.drop k) a w →
    walk P ops S Q (fun i => free.getD i false) (List.range' k l.length) a w := by
  induction l with
  | nil => intro k a w _ h; simpa [text, walk] using h
  | cons o l ih =>
    intro k a w hl h
    have h0 : ops[k]? = some o := by simpa using (hl 0).symm
    have hl' : ∀ j, l[j]? = ops[k + 1 + j]? := fun j => by have := hl (j + 1); simpa [Nat.add_assoc, Nat.add_comm 1 j] using this
    cases hd : free.drop k with
    | nil => rw [hd] at h; exact h.elim
    | cons f m =>
      have hf : free.getD k false = f := by
        rw [List.getD_eq_getElem?_getD, ← List.head?_drop, hd]; rfl
      have hm : m = free.drop (k + 1) := by
        rw [← List.tail_drop, hd]; rfl
      rw [hd] at h
      simp only [List.length_cons, List.range'_succ, walk, h0]
      have hend : ∀ w', (l = [] ∨ S w') → (k + 1 = ops.size ∨ S w') := fun w' h => h.imp (fun e => by
        have h1 := hl 1
        subst e
        simp only [List.getElem?_cons_succ, List.getElem?_nil] at h1
        have h2 := Array.getElem?_eq_none_iff.1 h1.symm
        have h3 := (Array.getElem?_eq_some_iff.1 h0).1
        omega) id
      cases f with
      | true =>
        obtain ⟨v, hv, h⟩ := h
        rw [if_pos hf]
        exact ⟨v, hv, ih (k + 1) _ _ hl' (by rw [← hm]; exact h)⟩
      | false =>
        rw [if_neg (by rw [hf]; decide)]
        simp only [text] at h
        unfold wpOp
        simp only [h0]
        split at h
        · rename_i hw
          rw [if_pos hw]
          exact .inl (Oper.wp_mono (fun a' w' hk => ⟨hend _ hk.1, ih (k + 1) _ _ hl' (by rw [← hm]; exact hk.2)⟩) h)
        · rename_i hw
          rw [if_neg hw]
          exact ⟨hend _ h.1, ih (k + 1) _ _ hl' (by rw [← hm]; exact h.2)⟩

/-- **A REGION THAT DRAWS ITS ORDER**: free: the kinds, one an operation; B: what each waits for ('Region.before'). -/
theorem wp_region_text {id : Nat} {a : Act} {w : World} {l : List Oper} (free : List Bool) (S : World → Prop) (hm : P.follows .mixedOrders = true) (hok : ok l.toArray free (Region.before l.toArray).toList = true) (hS : S w.drew)
    (h : text P l.toArray S Q l free a w.drew) : (Code.region id l.toArray true).wp P Q a w := by
  refine wp_region_any hm ?_
  have hsz : (Array.replicate l.toArray.size false).size = l.toArray.size := by simp
  have hall : todo l.toArray (Array.replicate l.toArray.size false) = List.range l.toArray.size := by
    unfold todo
    rw [List.filter_eq_self]
    intro i hi
    have : i < l.toArray.size := List.mem_range.1 hi
    simp only [Array.getD_eq_getD_getElem?, Bool.not_eq_true']
    rw [Array.getElem?_eq_getElem (by simpa using this)]
    simp
  have := any_of_walk (P := P) (Q := Q) (S := S) hok l.toArray.size (Array.replicate l.toArray.size false) a w.drew hsz (fun j oj hj hl => by
      have : (Array.replicate l.toArray.size false).getD j false = false := by
        simp only [Array.getD_eq_getD_getElem?, Array.getElem?_replicate]; split <;> rfl
      rw [this] at hl; cases hl) (by rw [hall]; simp) (.inr hS) (by
      rw [hall, List.range_eq_range']
      exact walk_of_text l 0 a w.drew (fun j => by simp) (by simpa using h))
  exact this

/-- a free operation without a guard: in every world it yields the same. -/
theorem text_free {o : Oper} {l : List Oper} {m : List Bool} {a : Act} {w : World} (hg : o.guard = none)
    (h : ∀ K : Act → Prop, (∀ a', text P ops S Q l m a' w → K a') → ∃ v, (∀ w, (execOp a.eval o).run P w = .ok (.value v) w) ∧ K (a.put o.dst v)) : text P ops S Q (o :: l) (true :: m) a w := by
  obtain ⟨v, hy, hk⟩ := h _ (fun _ h => h)
  exact ⟨v, .inl ⟨by simp [Region.wanted, hg], fun w _ => hy w⟩, hk⟩
/-- a free operation without a guard. -/
theorem text_held {o : Oper} {l : List Oper} {m : List Bool} {a : Act} {w : World} (v : Value) (hg : o.guard = none) (hy : ∀ w, S w → (execOp a.eval o).run P w = .ok (.value v) w)
    (h : ∀ K : Act → Prop, (∀ a', text P ops S Q l m a' w → K a') → K (a.put o.dst v)) : text P ops S Q (o :: l) (true :: m) a w :=
  ⟨v, .inl ⟨by simp [Region.wanted, hg], hy⟩, h _ (fun _ h => h)⟩
/-- a chained operation without a guard: what follows stands behind a variable. -/
theorem text_chain {o : Oper} {l : List Oper} {m : List Bool} {a : Act} {w : World} (hg : o.guard = none) (h : ∀ K : Act → World → Prop, (∀ a' w', S w' ∧ text P ops S Q l m a' w' → K a' w') → o.wp P a w K NoWay) : text P ops S Q (o :: l) (false :: m) a w := by
  unfold text
  rw [if_pos (by simp [Region.wanted, hg])]
  exact h _ (fun _ _ h => ⟨.inr h.1, h.2⟩)
/-- an append, its run told. -/
theorem text_app {o : Oper} {l : List Oper} {m : List Bool} {a : Act} {w : World} (hg : o.guard = none) (s x : Operand) (T T' : TypeId)
    (ho : o.op = .call { callee := .builtin .append, args := #[s, x], argTypes := #[T, T'] }) (R : Value → World → Prop)
    (hr : ∃ v' w', (Builtin.append_ #[T, T'] o.type #[a.eval s, a.eval x]).run P w = .ok v' w' ∧ R v' w') (h : ∀ v' w', R v' w' → S w' ∧ text P ops S Q l m (a.put o.dst v') w') : text P ops S Q (o :: l) (false :: m) a w := by
  obtain ⟨v', w', hr, hR⟩ := hr
  refine text_chain hg fun K hK => ?_
  unfold Oper.wp execOp
  simp only [ho, resolve, invoke, builtin, Sem.run_bind, Sem.run_pure, Result.andThen_ok, List.map_toArray, List.map_cons, List.map_nil, hr]
  exact hK _ _ (h v' w' hR)
/-- the last operation of all, a chained one without a guard: nothing more is asked of the world. -/
theorem text_last {o : Oper} {m : List Bool} {a : Act} {w : World} (hg : o.guard = none) (h : ∀ K : Act → World → Prop, (∀ a' w', Q .normal a' w' → K a' w') → o.wp P a w K NoWay) : text P ops S Q [o] (false :: m) a w := by
  unfold text
  rw [if_pos (by simp [Region.wanted, hg])]
  exact h _ (fun _ _ h => ⟨.inl rfl, h⟩)
theorem text_done {m : List Bool} {a : Act} {w : World} (h : Q .normal a w) : text P ops S Q [] m a w := h
end
end Go.Proofs.Txt
