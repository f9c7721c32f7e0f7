/-
  A region that draws its order and in which some of the chained operations stand in no order: one walk for each of their orders, by a plan that tells them.
  Loads of rows in a region walked by a plan; xor of a byte. No program in sight.
  A part of a slice; a struct stored whole. No program in sight.
  A pool of operations of a region that stand in no order: each is shown once, from what is known of those that it looks at.
-/
import Derived.Test.YtalihehmbiohlaaDoorTxt
import Derived.Test.YtalihehmbiohlaaDoorMem
import Derived.Deep.MidRow
import Derived.Laws.Tables
namespace Go.Proofs.Txt
open Go

/-- which operation comes next: a free one · a chained one · the last of all · two ways to go on. -/
inductive Plan where
  | done
  | free (i : Nat) (p : Plan)
  | one (i : Nat) (p : Plan)
  | last (i : Nat)
  | alt (p q : Plan)
  | pool (r : List Nat) (p : Plan)

def Plan.heads : Plan → List Nat
  | .one i _ => [i]
  | .last i => [i]
  | .alt p q => p.heads ++ q.heads
  | .pool r _ => r
  | _ => []
/-- every operation that may come next is told, and none of them is free. -/
def complete (fr : Nat → Bool) (W : Nat → Nat → Bool) (hs l : List Nat) : Bool := l.all fun i => l.any (fun j => W i j) || (!fr i && hs.contains i)
/-- what stands behind a pool. -/
def rest (r l : List Nat) : List Nat := l.filter (fun k => !r.contains k)
def Plan.good (n : Nat) (fr : Nat → Bool) (W : Nat → Nat → Bool) : Plan → Bool → List Nat → Bool
  | .done, _, l => l.isEmpty
  | .free i p, t, l => t && (fr i && (l.contains i && (l.all (fun j => !W i j) && p.good n fr W true (l.filter (· != i)))))
  | .one i p, t, l => (!t || complete fr W [i] l) && (!fr i && (l.contains i && (l.all (fun j => !W i j) && p.good n fr W true (l.filter (· != i)))))
  | .last i, _, l => (l == [i]) && (!fr i && (List.range n).all (fun j => j == i || W i j))
  | .alt p q, t, l => (!t || complete fr W (p.heads ++ q.heads) l) && (p.good n fr W false l && q.good n fr W false l)
  | .pool r p, _, l => !r.isEmpty && (r.all (fun i => l.contains i && !fr i) && ((rest r l).all (fun k => r.all (fun j => W k j)) && p.good n fr W true (rest r l)))
def Plan.drop (i : Nat) : Plan → Plan
  | .done => .done
  | .free j p => if j = i then p else .free j (p.drop i)
  | .one j p => .one j (p.drop i)
  | .last j => .last j
  | .alt p q => .alt (p.drop i) (q.drop i)
  | .pool r p => .pool r p
def Plan.take (i : Nat) : Plan → Plan
  | .done => .done
  | .free j p => .free j (p.take i)
  | .one _ p => p
  | .last _ => .done
  | .alt p q => if p.heads.contains i then p.take i else q.take i
  | .pool r p => if (r.filter (· != i)).isEmpty then p else .pool (r.filter (· != i)) p
def Plan.ends (i : Nat) : Plan → Bool
  | .free _ p => p.ends i
  | .last _ => true
  | .alt p q => if p.heads.contains i then p.ends i else q.ends i
  | _ => false

section
variable {P : Program} {ops : Array Oper} {S : World → Prop} {Q : Exit → Act → World → Prop}

def runs (P : Program) (ops : Array Oper) (S : World → Prop) (Q : Exit → Act → World → Prop) : Plan → Act → World → Prop
  | .done, a, w => Q .normal a w
  | .free i p, a, w => match ops[i]? with
    | none => False
    | some o => ∃ v, YieldsIf P ops S o v a ∧ runs P ops S Q p (a.put o.dst v) w
  | .one i p, a, w => wpOp P ops NoWay i (fun a' w' => S w' ∧ runs P ops S Q p a' w') a w
  | .last i, a, w => wpOp P ops NoWay i (fun a' w' => Q .normal a' w') a w
  | .alt p q, a, w => runs P ops S Q p a w ∧ runs P ops S Q q a w
  | .pool r p, a, w => ∃ J : List Nat → Act → World → Prop, J r a w ∧
    (∀ l i a w, i ∈ l → (∀ j ∈ l, waits (Region.before ops).toList i j = false) → J l a w → wpOp P ops NoWay i (fun a' w' => S w' ∧ J (l.filter (· != i)) a' w') a w) ∧
    ∀ a w, J [] a w → runs P ops S Q p a w

/-- what the looks of the operations allow. -/
def looseOk2 (ops : Array Oper) (fr : Nat → Bool) (W : Nat → Nat → Bool) : Bool := (List.range ops.size).all fun i => (List.range ops.size).all fun j => !fr i || i == j || W i j || W j i || match ops[i]?, ops[j]? with
  | some oi, some oj => oi.apart ops oj && oj.apart ops oi
  | _, _ => false
def Loose2 (ops : Array Oper) (fr : Nat → Bool) (W : Nat → Nat → Bool) : Prop := ∀ i j oi oj, ops[i]? = some oi → ops[j]? = some oj → fr i = true → i ≠ j → W i j = false → W j i = false → oi.apart ops oj = true ∧ oj.apart ops oi = true
theorem loose2_of {fr : Nat → Bool} {W : Nat → Nat → Bool} (h : looseOk2 ops fr W = true) : Loose2 ops fr W := by
  intro i j oi oj hi hj hf hne h1 h2
  have := List.all_eq_true.1 (List.all_eq_true.1 h i (List.mem_range.2 (Array.getElem?_eq_some_iff.1 hi).1)) j (List.mem_range.2 (Array.getElem?_eq_some_iff.1 hj).1)
  simp [hf, hne, h1, h2, hi, hj] at this
  exact this

variable {n : Nat} {fr : Nat → Bool} {W : Nat → Nat → Bool}

theorem pool_ready {r l : List Nat} {p : Plan} {t : Bool} (hg : (Plan.pool r p).good n fr W t l = true) {i : Nat} (hi : i ∈ l) (hr : ∀ j ∈ l, W i j = false) : i ∈ r ∧ fr i = false := by
  simp only [Plan.good, Bool.and_eq_true, Bool.not_eq_true', List.isEmpty_eq_false_iff, List.all_eq_true, List.contains_iff_mem] at hg
  obtain ⟨h0, h1, h2, _⟩ := hg
  by_cases hir : i ∈ r
  · exact ⟨hir, (h1 i hir).2⟩
  · exfalso
    obtain ⟨j, hj⟩ := List.exists_mem_of_ne_nil r h0
    have := h2 i (List.mem_filter.2 ⟨hi, by simp [hir]⟩) j hj
    rw [hr j (h1 j hj).1] at this
    cases this
theorem pool_take {r l : List Nat} {p : Plan} {t : Bool} (hg : (Plan.pool r p).good n fr W t l = true) {i : Nat} (hir : i ∈ r) : ((Plan.pool r p).take i).good n fr W true (l.filter (· != i)) = true := by
  simp only [Plan.good, Bool.and_eq_true, Bool.not_eq_true', List.isEmpty_eq_false_iff, List.all_eq_true, List.contains_iff_mem] at hg
  obtain ⟨h0, h1, h2, h3⟩ := hg
  have e : rest (r.filter (· != i)) (l.filter (· != i)) = rest r l := by
    unfold rest
    rw [List.filter_filter]
    apply List.filter_congr
    intro k _
    by_cases hk : k = i
    · subst hk; simp [hir]
    · simp [hk]
  have e' : r.filter (· != i) = [] → l.filter (· != i) = rest r l := by
    intro hn
    unfold rest
    apply List.filter_congr
    intro k _
    by_cases hk : k = i
    · subst hk; simp [hir]
    · have : k ∉ r := fun hk' => by
        have : k ∈ r.filter (· != i) := List.mem_filter.2 ⟨hk', by simp [hk]⟩
        rw [hn] at this; cases this
      simp [hk, this]
  unfold Plan.take
  by_cases hn : r.filter (· != i) = []
  · rw [if_pos (by simpa using hn), e' hn]; exact h3
  · rw [if_neg (by simpa using hn)]
    simp only [Plan.good, Bool.and_eq_true, Bool.not_eq_true', List.isEmpty_eq_false_iff, List.all_eq_true, List.contains_iff_mem]
    rw [e]
    exact ⟨hn, fun k hk => ⟨List.mem_filter.2 ⟨(h1 k (List.mem_filter.1 hk).1).1, (List.mem_filter.1 hk).2⟩, (h1 k (List.mem_filter.1 hk).1).2⟩, fun k hk j hj => h2 k hk j (List.mem_filter.1 hj).1, h3⟩
theorem pool_step {r l : List Nat} {p : Plan} {t : Bool} (hg : (Plan.pool r p).good n fr (waits (Region.before ops).toList) t l = true) {i : Nat} (hir : i ∈ r) (hr : ∀ j ∈ l, waits (Region.before ops).toList i j = false) {a : Act} {w : World}
    (h : runs P ops S Q (.pool r p) a w) : wpOp P ops NoWay i (fun a' w' => S w' ∧ runs P ops S Q ((Plan.pool r p).take i) a' w') a w := by
  simp only [Plan.good, Bool.and_eq_true, List.all_eq_true, List.contains_iff_mem] at hg
  obtain ⟨J, hJ, hs, he⟩ := h
  refine wpOp_mono (fun a' w' hk => ⟨hk.1, ?_⟩) (hs r i a w hir (fun j hj => hr j (hg.2.1 j hj).1) hJ)
  unfold Plan.take
  by_cases hn : r.filter (· != i) = []
  · rw [if_pos (by simpa using hn)]
    have := hk.2
    rw [hn] at this
    exact he _ _ this
  · rw [if_neg (by simpa using hn)]
    exact ⟨J, hk.2, hs, he⟩

theorem complete_spec {hs l : List Nat} (h : complete fr W hs l = true) {i : Nat} (hi : i ∈ l) (hr : ∀ j ∈ l, W i j = false) : fr i = false ∧ i ∈ hs := by
  have h1 := List.all_eq_true.1 h i hi
  simp only [Bool.or_eq_true, List.any_eq_true, Bool.and_eq_true, Bool.not_eq_true', List.contains_iff_mem] at h1
  rcases h1 with ⟨j, hj, hw⟩ | h1
  · rw [hr j hj] at hw; cases hw
  · exact h1
theorem filter_filter_comm (l : List Nat) (i j : Nat) : (l.filter (· != i)).filter (· != j) = (l.filter (· != j)).filter (· != i) := by
  rw [List.filter_filter, List.filter_filter]
  apply List.filter_congr
  intro k _
  exact Bool.and_comm _ _

theorem bring2_free (hsel : Region.noSelect ops = true) (hL : Loose2 ops fr W) {i : Nat} {oi : Oper} (hi : ops[i]? = some oi) (hfi : fr i = true) (p : Plan) :
    ∀ (l : List Nat) (a : Act) (w : World), S w → p.good n fr W true l = true → i ∈ l → (∀ j ∈ l, W i j = false) → runs P ops S Q p a w →
      ∃ v, YieldsIf P ops S oi v a ∧ runs P ops S Q (p.drop i) (a.put oi.dst v) w ∧ (p.drop i).good n fr W true (l.filter (· != i)) = true := by
  induction p with
  | done =>
    intro l a w _ hg hil _ _
    simp only [Plan.good, List.isEmpty_iff] at hg
    subst hg
    cases hil
  | free j p ih =>
    intro l a w hS hg hil hr h
    simp only [Plan.good, Bool.and_eq_true, List.all_eq_true, Bool.not_eq_true'] at hg
    obtain ⟨_, hfj, hjl, hjr, hg⟩ := hg
    simp only [runs] at h
    cases hj : ops[j]? with
    | none => simp only [hj] at h
    | some oj =>
      simp only [hj] at h
      obtain ⟨u, hu, h⟩ := h
      by_cases e : j = i
      · subst e
        obtain rfl : oj = oi := Option.some.inj (hj.symm.trans hi)
        simp only [Plan.drop, if_true]
        exact ⟨u, hu, h, hg⟩
      · have hne : i ≠ j := fun h => e h.symm
        have hjl' : j ∈ l := by simpa using hjl
        obtain ⟨hap, _⟩ := hL i j oi oj hi hj hfi hne (hr j hjl') (hjr i hil)
        obtain ⟨p1, p2, p3⟩ := Oper.apart_spec hap
        have hsi : ∀ cs b, oi.op ≠ .select cs b := fun cs b => Region.noSelect_spec hsel i oi cs b hi
        have hsj : ∀ cs b, oj.op ≠ .select cs b := fun cs b => Region.noSelect_spec hsel j oj cs b hj
        obtain ⟨v, hv, h, hg'⟩ := ih _ _ w hS hg (by simp [hil, hne]) (fun k hk => hr k (List.mem_filter.1 hk).1) h
        refine ⟨v, hv.of_same (execOp_put oi hsi a oj.dst u p3).symm (wanted_put oi a oj.dst u p3).symm, ?_, ?_⟩
        · simp only [Plan.drop, if_neg e, runs, hj]
          refine ⟨u, hu.of_same (execOp_put oj hsj a oi.dst v p1) (wanted_put oj a oi.dst v p1), ?_⟩
          rwa [Act.put_comm a v u p2]
        · simp only [Plan.drop, if_neg e, Plan.good, Bool.and_eq_true, List.all_eq_true, Bool.not_eq_true']
          refine ⟨trivial, hfj, by simpa [e] using hjl', fun k hk => hjr k (List.mem_filter.1 hk).1, ?_⟩
          rw [filter_filter_comm]; exact hg'
  | one j p _ =>
    intro l a w _ hg hil hr _
    simp only [Plan.good, Bool.and_eq_true, Bool.not_true, Bool.false_or] at hg
    have := (complete_spec hg.1 hil hr).1
    rw [hfi] at this; cases this
  | last j =>
    intro l a w _ hg hil _ _
    simp only [Plan.good, Bool.and_eq_true, beq_iff_eq, Bool.not_eq_true'] at hg
    obtain ⟨rfl, hfj, _⟩ := hg
    simp only [List.mem_singleton] at hil
    subst hil
    rw [hfi] at hfj; cases hfj
  | alt p q _ _ =>
    intro l a w _ hg hil hr _
    simp only [Plan.good, Bool.and_eq_true, Bool.not_true, Bool.false_or] at hg
    have := (complete_spec hg.1 hil hr).1
    rw [hfi] at this; cases this
  | pool r p _ =>
    intro l a w _ hg hil hr _
    have := (pool_ready hg hil hr).2
    rw [hfi] at this; cases this

theorem pick_head {i : Nat} (hW : W = waits (Region.before ops).toList) (p : Plan) : ∀ (t : Bool) (l : List Nat) (a : Act) (w : World), (∀ j ∈ l, W i j = false) → p.good n fr W t l = true → i ∈ p.heads → runs P ops S Q p a w →
    wpOp P ops NoWay i (fun a' w' => (p.ends i = true ∨ S w') ∧ runs P ops S Q (p.take i) a' w') a w ∧ (p.take i).good n fr W true (l.filter (· != i)) = true ∧ (p.ends i = true → ∀ j, j < n → j ≠ i → W i j = true) := by
  induction p with
  | done => intro t l a w _ _ h _; cases h
  | free j p _ => intro t l a w _ _ h _; cases h
  | one j p _ =>
    intro t l a w hr hg hi h
    simp only [Plan.heads, List.mem_singleton] at hi
    subst hi
    simp only [Plan.good, Bool.and_eq_true] at hg
    refine ⟨?_, hg.2.2.2.2, fun h => by cases h⟩
    simp only [runs] at h
    exact wpOp_mono (fun a' w' hk => ⟨.inr hk.1, hk.2⟩) h
  | last j =>
    intro t l a w hr hg hi h
    simp only [Plan.heads, List.mem_singleton] at hi
    subst hi
    simp only [Plan.good, Bool.and_eq_true, beq_iff_eq, List.all_eq_true, List.mem_range, Bool.or_eq_true] at hg
    obtain ⟨rfl, _, hw⟩ := hg
    refine ⟨?_, by simp [Plan.take, Plan.good], fun _ j hj hne => ?_⟩
    · simp only [runs] at h
      exact wpOp_mono (fun a' w' hk => ⟨.inl rfl, hk⟩) h
    · rcases hw j hj with h1 | h1
      · exact absurd h1 hne
      · exact h1
  | alt p q ihp ihq =>
    intro t l a w hr hg hi h
    simp only [Plan.good, Bool.and_eq_true] at hg
    obtain ⟨_, hgp, hgq⟩ := hg
    simp only [Plan.heads, List.mem_append] at hi
    simp only [Plan.take, Plan.ends]
    by_cases hp : i ∈ p.heads
    · have hc : p.heads.contains i = true := by simpa using hp
      simp only [hc, if_true]
      exact ihp false l a w hr hgp hp h.1
    · have hc : p.heads.contains i = false := by simpa using hp
      simp only [hc, Bool.false_eq_true, if_false]
      exact ihq false l a w hr hgq (hi.resolve_left hp) h.2
  | pool r p _ =>
    intro t l a w hr hg hi h
    subst hW
    exact ⟨wpOp_mono (fun a' w' hk => ⟨.inr hk.1, hk.2⟩) (pool_step hg hi hr h), pool_take hg hi, fun h => by cases h⟩

theorem bring2_chained (hW : W = waits (Region.before ops).toList) (hsel : Region.noSelect ops = true) (hL : Loose2 ops fr W) (hn : n = ops.size) {i : Nat} {oi : Oper} (hi : ops[i]? = some oi) (hfi : fr i = false) (p : Plan) :
    ∀ (l : List Nat) (a : Act) (w : World), p.good n fr W true l = true → i ∈ l → (∀ j ∈ l, W i j = false) → runs P ops S Q p a w →
      wpOp P ops NoWay i (fun a' w' => (p.ends i = true ∨ S w') ∧ runs P ops S Q (p.take i) a' w') a w ∧ (p.take i).good n fr W true (l.filter (· != i)) = true ∧ (p.ends i = true → ∀ j, j < n → j ≠ i → W i j = true) := by
  induction p with
  | done =>
    intro l a w hg hil _ _
    simp only [Plan.good, List.isEmpty_iff] at hg
    subst hg
    cases hil
  | free j p ih =>
    intro l a w hg hil hr h
    simp only [Plan.good, Bool.and_eq_true, List.all_eq_true, Bool.not_eq_true'] at hg
    obtain ⟨_, hfj, hjl, hjr, hg⟩ := hg
    have hjl' : j ∈ l := by simpa using hjl
    simp only [runs] at h
    cases hj : ops[j]? with
    | none => simp only [hj] at h
    | some oj =>
      simp only [hj] at h
      obtain ⟨u, hu, h⟩ := h
      have hne : i ≠ j := fun h => by rw [h] at hfi; rw [hfi] at hfj; cases hfj
      obtain ⟨hap, _⟩ := hL j i oj oi hj hi hfj (fun h => hne h.symm) (hjr i hil) (hr j hjl')
      obtain ⟨h1, h2, h3⟩ := ih _ _ w hg (by simp [hil, hne]) (fun k hk => hr k (List.mem_filter.1 hk).1) h
      have hjn : j < n := by rw [hn]; exact (Array.getElem?_eq_some_iff.1 hj).1
      refine ⟨?_, ?_, h3⟩
      · have h := wpOp_putIf hi hap (fun cs b => Region.noSelect_spec hsel j oj cs b hj) (fun cs b => Region.noSelect_spec hsel i oi cs b hi) (fun _ _ _ hq => hq) hu h1
        refine wpOp_mono (fun a' w' hk => ⟨hk.2.1, ?_⟩) h
        simp only [Plan.take, runs, hj]
        exact ⟨u, hk.1, hk.2.2⟩
      · simp only [Plan.take, Plan.good, Bool.and_eq_true, List.all_eq_true, Bool.not_eq_true']
        refine ⟨trivial, hfj, by simp only [List.contains_iff_mem, List.mem_filter, bne_iff_ne, ne_eq]; exact ⟨hjl', fun h => hne h.symm⟩, fun k hk => hjr k (List.mem_filter.1 hk).1, ?_⟩
        rw [filter_filter_comm]; exact h2
  | one j p _ =>
    intro l a w hg hil hr h
    have hc : complete fr W [j] l = true := by
      simp only [Plan.good, Bool.and_eq_true, Bool.not_true, Bool.false_or] at hg
      exact hg.1
    exact pick_head hW _ true l a w hr hg (complete_spec hc hil hr).2 h
  | last j =>
    intro l a w hg hil hr h
    have hc : l = [j] := by
      simp only [Plan.good, Bool.and_eq_true, beq_iff_eq] at hg
      exact hg.1
    subst hc
    exact pick_head hW _ true _ a w hr hg hil h
  | alt p q _ _ =>
    intro l a w hg hil hr h
    have hc : complete fr W (p.heads ++ q.heads) l = true := by
      simp only [Plan.good, Bool.and_eq_true, Bool.not_true, Bool.false_or] at hg
      exact hg.1
    exact pick_head hW _ true l a w hr hg (complete_spec hc hil hr).2 h
  | pool r p _ =>
    intro l a w hg hil hr h
    exact pick_head hW _ true l a w hr hg (pool_ready hg hil hr).1 h

theorem todo_set {listed : Array Bool} (_ : listed.size = ops.size) (i : Nat) : todo ops (listed.setIfInBounds i true) = (todo ops listed).filter (· != i) := by
  unfold todo
  rw [List.filter_filter]
  apply List.filter_congr
  intro k hk
  have hk := List.mem_range.1 hk
  by_cases e : i = k
  · subst e
    have : (listed.setIfInBounds i true).getD i true = true := by simp [Array.getD_eq_getD_getElem?]
    rw [this]; simp
  · rw [getD_set_ne true e]
    have hb : (k != i) = true := by rw [bne_iff_ne]; exact fun h => e h.symm
    rw [hb, Bool.true_and]

theorem any_of_plan {B : List Nat} (hBe : B = (Region.before ops).toList) (hsel : Region.noSelect ops = true) (hB : bitsOk ops B = true) (hL : Loose2 ops fr (waits B)) (m : Nat) : ∀ (listed : Array Bool) (p : Plan) (a : Act) (w : World), listed.size = ops.size → Closed ops listed → (todo ops listed).length = m → (todo ops listed = [] ∨ S w) →
    p.good ops.size fr (waits B) true (todo ops listed) = true → runs P ops S Q p a w → wpAny P .any ops Q m listed a w := by
  have hready : ∀ listed : Array Bool, listed.size = ops.size → Closed ops listed → ∀ i, i ∈ Region.ready .any ops listed → i ∈ todo ops listed ∧ ∀ j ∈ todo ops listed, waits B i j = false := by
    intro listed hsz hc i hi
    obtain ⟨hiu, oi, hoi, hall⟩ := mem_ready.1 hi
    refine ⟨List.mem_filter.2 ⟨List.mem_range.2 (Array.getElem?_eq_some_iff.1 hoi).1, by simp [hiu]⟩, fun j hj => ?_⟩
    cases hw : waits B i j with
    | false => rfl
    | true =>
      exfalso
      have hji : j < i := by simp only [waits, Bool.and_eq_true, decide_eq_true_eq] at hw; exact hw.1
      have h1 := waits_listed hB hc i oi hoi hall j hji hw
      have hju : listed.getD j true = false := by simpa using (List.mem_filter.1 hj).2
      rw [unlisted hju] at h1
      cases h1
  induction m with
  | zero =>
    intro listed p a w hsz hc hn _ hg h
    have h0 : todo ops listed = [] := List.eq_nil_of_length_eq_zero hn
    rw [h0] at hg
    have hp : ∀ (r : Plan) (t : Bool), r.good ops.size fr (waits B) t [] = true → runs P ops S Q r a w → Q .normal a w := by
      intro r
      induction r with
      | done => exact fun _ _ h => h
      | free j p _ => intro t hr; simp [Plan.good] at hr
      | one j p _ => intro t hr; simp [Plan.good] at hr
      | last j => intro t hr; simp [Plan.good] at hr
      | alt p q ihp _ =>
        intro t hr h
        simp only [Plan.good, Bool.and_eq_true] at hr
        exact ihp false hr.2.1 h.1
      | pool r p _ =>
        intro t hr
        simp only [Plan.good, Bool.and_eq_true, Bool.not_eq_true', List.isEmpty_eq_false_iff, List.all_eq_true, List.contains_iff_mem] at hr
        obtain ⟨j, hj⟩ := List.exists_mem_of_ne_nil r hr.1
        have := (hr.2.1 j hj).1
        cases this
    refine ⟨?_, hp p true hg h⟩
    apply List.eq_nil_iff_forall_not_mem.2
    intro i hi
    have := (hready listed hsz hc i hi).1
    rw [h0] at this
    cases this
  | succ m ih =>
    intro listed p a w hsz hc hn hS hg h
    have hS : S w := hS.resolve_left (fun h0 => by rw [h0] at hn; cases hn)
    refine ⟨fun hr => ?_, fun i hi => ?_⟩
    · exfalso
      cases ht : todo ops listed with
      | nil => rw [ht] at hn; cases hn
      | cons i l =>
        have hmem : i ∈ todo ops listed := by rw [ht]; simp
        obtain ⟨hir, hiu⟩ := List.mem_filter.1 hmem
        have hiu' : listed.getD i true = false := by simpa using hiu
        have hsorted : (todo ops listed).Pairwise (· < ·) := List.Pairwise.filter _ List.pairwise_lt_range
        rw [ht] at hsorted
        have hsmall : ∀ j, j < i → listed.getD j false = true := by
          intro j hj
          cases hq : listed.getD j true with
          | true =>
            have hjs : j < listed.size := by have := List.mem_range.1 hir; omega
            rw [Array.getD_eq_getD_getElem?, Array.getElem?_eq_getElem hjs] at *
            simpa using hq
          | false =>
            exfalso
            have hj2 : j ∈ todo ops listed := List.mem_filter.2 ⟨List.mem_range.2 (by have := List.mem_range.1 hir; omega), by simp [hq]⟩
            rw [ht] at hj2
            rcases List.mem_cons.1 hj2 with h6 | h6
            · omega
            · have := (List.pairwise_cons.1 hsorted).1 j h6
              omega
        have hlt := List.mem_range.1 hir
        have hready : i ∈ Region.ready .any ops listed := mem_ready.2 ⟨hiu', ops[i], Array.getElem?_eq_getElem hlt, fun e he hb => by
          have h1 := List.all_eq_true.1 hB i hir
          simp only [Array.getElem?_eq_getElem hlt, Bool.and_eq_true] at h1
          have h2 := List.all_eq_true.1 h1.1 e (by simpa using he)
          simp only [hb, Bool.not_true, Bool.false_or, decide_eq_true_eq] at h2
          exact hsmall e.on h2⟩
        rw [hr] at hready
        cases hready
    · obtain ⟨hil, hr⟩ := hready listed hsz hc i hi
      obtain ⟨hiu, oi, hoi, hall⟩ := mem_ready.1 hi
      have hsz' : (listed.setIfInBounds i true).size = ops.size := by simpa using hsz
      have hc' : Closed ops (listed.setIfInBounds i true) := by
        intro j oj hoj hl e he hb
        by_cases hji : i = j
        · subst hji
          obtain rfl : oj = oi := Option.some.inj (hoj.symm.trans hoi)
          exact getD_set_true (hall e he hb)
        · rw [getD_set_ne false hji] at hl
          exact getD_set_true (hc j oj hoj hl e he hb)
      have hn' : (todo ops (listed.setIfInBounds i true)).length = m := by
        obtain ⟨l1, l2, h2, h3, _⟩ := todo_split hsz hiu
        rw [h3]
        rw [h2] at hn
        simp only [List.length_append, List.length_cons] at hn ⊢
        omega
      by_cases hf : fr i = true
      · obtain ⟨v, hv, h1, hg1⟩ := bring2_free hsel hL hoi hf p _ a w hS hg hil hr h
        refine hv.wpOp hoi hS ?_
        exact ih _ _ _ _ hsz' hc' hn' (.inr hS) (by rw [todo_set hsz]; exact hg1) h1
      · obtain ⟨h1, hg1, he⟩ := bring2_chained (by rw [hBe]) hsel hL rfl hoi (by simpa using hf) p _ a w hg hil hr h
        refine wpOp_exits (wpOp_mono (fun a' w' hk => ?_) h1)
        refine ih _ _ _ _ hsz' hc' hn' ?_ (by rw [todo_set hsz]; exact hg1) hk.2
        rcases hk.1 with hlast | hS'
        · left
          rw [todo_set hsz]
          apply List.filter_eq_nil_iff.2
          intro j hj
          simp only [bne_iff_ne, ne_eq, Decidable.not_not]
          refine Decidable.byContradiction fun hne => ?_
          have h5 := he hlast j (List.mem_range.1 (List.mem_filter.1 hj).1) hne
          rw [hr j hj] at h5
          cases h5
        · exact .inr hS'

def okPlan (ops : Array Oper) (free : List Bool) (p : Plan) : Bool :=
  Region.noSelect ops && (bitsOk ops (Region.before ops).toList && (looseOk2 ops (fun i => free.getD i false) (waits (Region.before ops).toList) && p.good ops.size (fun i => free.getD i false) (waits (Region.before ops).toList) true (List.range ops.size)))

/-- **A REGION THAT DRAWS ITS ORDER, BY A PLAN**. -/
theorem wp_region_plan {id : Nat} {a : Act} {w : World} {l : List Oper} (free : List Bool) (p : Plan) (S : World → Prop) (hm : P.follows .mixedOrders = true) (hok : okPlan l.toArray free p = true) (hS : S w.drew)
    (h : runs P l.toArray S Q p a w.drew) : (Code.region id l.toArray true).wp P Q a w := by
  refine wp_region_any hm ?_
  simp only [okPlan, Bool.and_eq_true] at hok
  obtain ⟨hsel, hB, hL, hg⟩ := hok
  have hsz : (Array.replicate l.toArray.size false).size = l.toArray.size := by simp
  have hall : todo l.toArray (Array.replicate l.toArray.size false) = List.range l.toArray.size := by
    unfold todo
    rw [List.filter_eq_self]
    intro i hi
    have : i < l.toArray.size := List.mem_range.1 hi
    simp only [Array.getD_eq_getD_getElem?, Bool.not_eq_true']
    rw [Array.getElem?_eq_getElem (by simpa using this)]
    simp
  exact any_of_plan (P := P) (Q := Q) (S := S) rfl hsel hB (loose2_of hL) l.toArray.size (Array.replicate l.toArray.size false) p a w.drew hsz (fun j oj hj hl => by
      have : (Array.replicate l.toArray.size false).getD j false = false := by
        simp only [Array.getD_eq_getD_getElem?, Array.getElem?_replicate]; split <;> rfl
      rw [this] at hl; cases hl) (by rw [hall]; simp) (.inr hS) (by rw [hall]; exact hg) h

/-- a free operation: in every world it yields the same. -/
theorem plan_free {o : Oper} {i : Nat} {p : Plan} {a : Act} {w : World} (hi : ops[i]? = some o) (hg : Region.wanted o (yielded ops a.tmps) = true)
    (h : ∀ K : Act → Prop, (∀ a', runs P ops S Q p a' w → K a') → ∃ v, (∀ w, (execOp a.eval o).run P w = .ok (.value v) w) ∧ K (a.put o.dst v)) : runs P ops S Q (.free i p) a w := by
  obtain ⟨v, hy, hk⟩ := h _ (fun _ h => h)
  simp only [runs, hi]
  exact ⟨v, .inl ⟨hg, fun w _ => hy w⟩, hk⟩
/-- a free operation whose value hangs on what S says. -/
theorem plan_held {o : Oper} {i : Nat} {p : Plan} {a : Act} {w : World} (v : Value) (hi : ops[i]? = some o) (hg : Region.wanted o (yielded ops a.tmps) = true) (hy : ∀ w, S w → (execOp a.eval o).run P w = .ok (.value v) w)
    (h : ∀ K : Act → Prop, (∀ a', runs P ops S Q p a' w → K a') → K (a.put o.dst v)) : runs P ops S Q (.free i p) a w := by
  simp only [runs, hi]
  exact ⟨v, .inl ⟨hg, hy⟩, h _ (fun _ h => h)⟩
/-- a free operation that is not wanted. -/
theorem plan_skip {o : Oper} {i : Nat} {p : Plan} {a : Act} {w : World} (hi : ops[i]? = some o) (hg : Region.wanted o (yielded ops a.tmps) = false) (h : runs P ops S Q p (a.put o.dst undef) w) : runs P ops S Q (.free i p) a w := by
  simp only [runs, hi]
  exact ⟨undef, .inr ⟨hg, rfl⟩, h⟩
/-- a chained operation. -/
theorem plan_one {o : Oper} {i : Nat} {p : Plan} {a : Act} {w : World} (hi : ops[i]? = some o) (hg : Region.wanted o (yielded ops a.tmps) = true) (h : ∀ K : Act → World → Prop, (∀ a' w', S w' ∧ runs P ops S Q p a' w' → K a' w') → o.wp P a w K NoWay) : runs P ops S Q (.one i p) a w := by
  simp only [runs]
  unfold wpOp
  simp only [hi]
  rw [if_pos hg]
  exact .inl (h _ (fun _ _ h => h))
/-- the last operation of all. -/
theorem plan_last {o : Oper} {i : Nat} {a : Act} {w : World} (hi : ops[i]? = some o) (hg : Region.wanted o (yielded ops a.tmps) = true) (h : ∀ K : Act → World → Prop, (∀ a' w', Q .normal a' w' → K a' w') → o.wp P a w K NoWay) : runs P ops S Q (.last i) a w := by
  simp only [runs]
  unfold wpOp
  simp only [hi]
  rw [if_pos hg]
  exact .inl (h _ (fun _ _ h => h))
/-- an append, its run told. -/
theorem plan_app {o : Oper} {i : Nat} {p : Plan} {a : Act} {w : World} (hi : ops[i]? = some o) (hg : Region.wanted o (yielded ops a.tmps) = true) (s x : Operand) (T T' : TypeId)
    (ho : o.op = .call { callee := .builtin .append, args := #[s, x], argTypes := #[T, T'] }) (R : Value → World → Prop)
    (hr : ∃ v' w', (Builtin.append_ #[T, T'] o.type #[a.eval s, a.eval x]).run P w = .ok v' w' ∧ R v' w') (h : ∀ v' w', R v' w' → S w' ∧ runs P ops S Q p (a.put o.dst v') w') : runs P ops S Q (.one i p) a w := by
  obtain ⟨v', w', hr, hR⟩ := hr
  refine plan_one hi hg fun K hK => ?_
  unfold Oper.wp execOp
  simp only [ho, resolve, invoke, builtin, Sem.run_bind, Sem.run_pure, Result.andThen_ok, List.map_toArray, List.map_cons, List.map_nil, hr]
  exact hK _ _ (h v' w' hR)
theorem plan_world {p : Plan} {a : Act} {w : World} (R : World → Prop) (h : R w) (k : ∀ w', R w' → runs P ops S Q p a w') : runs P ops S Q p a w := k w h
end
end Go.Proofs.Txt

namespace Go.Proofs.Txt
open Go Go.RowKit Go.Proofs.Mem
section
variable {P : Program} {ops : Array Oper} {S : World → Prop} {Q : Exit → Act → World → Prop}
theorem exec_load_mid {op : Oper} {a : Act} {w : World} (ty : TypeId) (x : Operand) (ho : op.op = .load ty x)
    (b o : Nat) (hx : a.eval x = .pointer (some ⟨b, o, none⟩)) (cs : List Value) (d : TypeDesc) (hc : w.rangeAt b o cs)
    (hu : P.underlying ty = some d) (hd : d.isRow = true) (hi : (P.info? ty).map (·.size) = some cs.length) : (execOp a.eval op).run P w = .ok (.value (.agg cs.toArray)) w := by
  unfold execOp
  simp only [ho, hx, Instr.loadAt, Instr.sureAddr, Sem.run_bind, Sem.run_pure, Result.andThen_ok, run_loadVar_mid w b o ty cs d hc hu hd hi]
/-- a struct or an array loaded out of a block that S tells. -/
theorem plan_load {op : Oper} {i : Nat} {p : Plan} {a : Act} {w : World} (hi : ops[i]? = some op) (hg : Region.wanted op (yielded ops a.tmps) = true) (ty : TypeId) (x : Operand) (ho : op.op = .load ty x)
    (b o : Nat) (hx : a.eval x = .pointer (some ⟨b, o, none⟩)) (cs : List Value) (d : TypeDesc) (hc : ∀ w, S w → w.rangeAt b o cs)
    (hu : P.underlying ty = some d) (hd : d.isRow = true) (hs : (P.info? ty).map (·.size) = some cs.length)
    (h : ∀ K : Act → Prop, (∀ a', runs P ops S Q p a' w → K a') → K (a.put op.dst (.agg cs.toArray))) : runs P ops S Q (.free i p) a w :=
  plan_held (.agg cs.toArray) hi hg (fun w0 h0 => exec_load_mid ty x ho b o hx cs d (hc w0 h0) hu hd hs) h
end
end Go.Proofs.Txt
namespace Go.Proofs.Mem
open Go.RowKit
theorem range_whole {w : World} {b : Nat} {cs : List Value} {T : TypeId} {fr : Nat × Nat} (h : w.heap[b]? = some (.cells cs.toArray T fr)) : w.rangeAt b 0 cs := by
  intro j v hv
  rw [Nat.zero_add, cell_at h, hv]
theorem xor_u8 (x : Int) (y : Int) : ∃ r : Nat, bits .xor .u8 x y = (r : Int) ∧ r < 256 := by
  have h : ∃ z : Int, bits .xor .u8 x y = IntKind.u8.wrap z := ⟨_, rfl⟩
  obtain ⟨z, h⟩ := h
  rw [h, IntKind.wrap_u8]
  exact ⟨(z % 256).toNat, by omega, by omega⟩
end Go.Proofs.Mem

namespace Go.Proofs.Txt
open Go Go.RowKit Go.Proofs.Mem
section
variable {P : Program} {ops : Array Oper} {S : World → Prop} {Q : Exit → Act → World → Prop}
theorem exec_build {o : Oper} {a : Act} {w : World} (t : TypeId) (l : List (Nat × Operand)) (ho : o.op = .build t l.toArray) (v : Value)
    (hr : (Instr.build t (l.map fun x => (x.1, a.eval x.2)).toArray).run P w = .ok v w) : (execOp a.eval o).run P w = .ok (.value v) w := by
  unfold execOp
  simp only [ho, Sem.run_bind, List.map_toArray]
  rw [show ((fun (x : Nat × Operand) => match x with | (i, y) => (i, a.eval y)) : Nat × Operand → Nat × Value) = fun x => (x.1, a.eval x.2) from rfl, hr]
  rfl
/-- a build, its run told. -/
theorem plan_build {o : Oper} {i : Nat} {p : Plan} {a : Act} {w : World} (hi : ops[i]? = some o) (hg : Region.wanted o (yielded ops a.tmps) = true) (t : TypeId) (l : List (Nat × Operand)) (ho : o.op = .build t l.toArray) (v : Value)
    (hr : ∀ w, (Instr.build t (l.map fun x => (x.1, a.eval x.2)).toArray).run P w = .ok v w)
    (h : ∀ K : Act → Prop, (∀ a', runs P ops S Q p a' w → K a') → K (a.put o.dst v)) : runs P ops S Q (.free i p) a w :=
  plan_held v hi hg (fun w0 _ => exec_build t l ho v (hr w0)) h
end
end Go.Proofs.Txt
namespace Go.Proofs.Mem
open Go.RowKit
theorem cells_sub {w : World} {p : Nat → Prop} {blk off : Nat} {cs : List Value} (hp : p blk) (h : ∀ i, i < cs.length → w.cell? ⟨blk, off + i, none⟩ = cs[i]?) (i k c : Nat) (hik : i + k ≤ cs.length) (hkc : k ≤ c) (hc : c ≤ 9223372036854775807) : Cells w p (.slice (some ⟨blk, off + i, none⟩) k c) ((cs.drop i).take k) := by
  have hl : ((cs.drop i).take k).length = k := by rw [List.length_take, List.length_drop]; omega
  refine ⟨_, _, _, rfl, hl.symm, hkc, by unfold maxLen; omega, fun _ => ⟨blk, off + i, rfl, hp, fun j hj => ?_⟩⟩
  rw [Nat.add_assoc, h (i + j) (by omega), List.getElem?_take, if_pos hj, List.getElem?_drop]
theorem ints_drop (k : IntKind) (xs : List Nat) (n : Nat) : (ints k xs).drop n = ints k (xs.drop n) := by simp [ints]
theorem ints_take (k : IntKind) (xs : List Nat) (n : Nat) : (ints k xs).take n = ints k (xs.take n) := by simp [ints]
/-- a slice that is not empty, opened. -/
theorem Cells.open_ {w : World} {p : Nat → Prop} {k : IntKind} {v : Value} {xs : List Nat} (h : Cells w p v (ints k xs)) (h0 : 0 < xs.length) :
    ∃ blk off cap, v = .slice (some ⟨blk, off, none⟩) xs.length cap ∧ xs.length ≤ cap ∧ cap ≤ 9223372036854775807 ∧ p blk ∧ ∀ i, i < (ints k xs).length → w.cell? ⟨blk, off + i, none⟩ = (ints k xs)[i]? := by
  obtain ⟨blk, off, cap, e, h1, h2, h3, h4⟩ := h.at_ (by rw [ints_length]; exact h0)
  rw [ints_length] at e h1
  exact ⟨blk, off, cap, e, h1, h2, h3, h4⟩
end Go.Proofs.Mem

namespace Go.Proofs.Txt
open Go Go.RowKit Go.Proofs.Mem

/-- the block that a slice or a pointer leads to. -/
def blk : Value → Option Nat
  | .slice (some a) _ _ => some a.block
  | .pointer (some a) => some a.block
  | _ => none
theorem own_blk {v : Value} {k : Nat} (h : v.ownBlock = some k) : blk v = some k := by
  unfold Value.ownBlock at h
  split at h
  · exact h
  · cases h

/-- what is known of an operation's value; 'own': it lies in a block of its own, made by the pool. -/
structure Fact (B : Nat) where
  own : Bool
  T : Value → World → Prop
  st : ∀ v w w' (q : Nat → Prop), T v w → Keep q w w' → (∀ b, b < B → q b) → (own = true → ∀ b, blk v = some b → q b) → T v w'
  lt : ∀ v w, T v w → own = true → ∀ b, blk v = some b → B ≤ b ∧ b < w.heap.size
def Fact.is (B : Nat) (v0 : Value) : Fact B := ⟨false, fun v _ => v = v0, fun _ _ _ _ h _ _ _ => h, fun _ _ _ h => by cases h⟩
/-- a row of its own. -/
def Fact.row (B : Nat) (E : TypeId) (cs : List Value) : Fact B :=
  ⟨true, fun v w => Row w E v cs ∧ ∀ k, v.ownBlock = some k → B ≤ k, fun v w w' q h k _ ho => ⟨h.1.keep k (fun b hb => ho rfl b (own_blk hb)), h.2⟩, fun v w h _ b hb => by
    obtain ⟨a, c, rfl⟩ := h.1.form
    cases a with
    | none => cases hb
    | some a => exact ⟨h.2 b hb, h.1.lt hb⟩⟩
/-- a block of its own that is known whole: the value leads to it. -/
def Fact.blockOf (B : Nat) (f : Nat → Value) (hf : ∀ b, blk (f b) = some b) (cs : List Value) (T : TypeId) : Fact B :=
  ⟨true, fun v w => ∃ b, v = f b ∧ B ≤ b ∧ w.heap[b]? = some (.cells cs.toArray T (0, 0)), fun v w w' q h k _ ho => by
    obtain ⟨b, rfl, h1, h2⟩ := h
    exact ⟨b, rfl, h1, (k.block b (ho rfl b (hf b))).trans h2⟩, fun v w h _ b hb => by
    obtain ⟨b', rfl, h1, h2⟩ := h
    rw [hf b'] at hb
    injection hb with hb
    subst hb
    exact ⟨h1, (Array.getElem?_eq_some_iff.1 h2).1⟩⟩

section
variable {P : Program} {ops : Array Oper} {S : World → Prop} {Q : Exit → Act → World → Prop} {ds : Nat → Nat}

def putAll (ds : Nat → Nat) (vs : Nat → Value) (l : List Nat) (a : Act) : Act := l.foldl (fun a j => a.put (some (ds j)) (vs j)) a
def AllL : List Nat → (Nat → Prop) → Prop
  | [], _ => True
  | [i], p => p i
  | i :: j :: l, p => p i ∧ AllL (j :: l) p
theorem AllL.at_ {l : List Nat} {p : Nat → Prop} (h : AllL l p) : ∀ i ∈ l, p i := by
  induction l with
  | nil => intro i hi; cases hi
  | cons x l ih =>
    intro i hi
    cases l with
    | nil => rw [List.mem_singleton.1 hi]; exact h
    | cons y l =>
      rcases List.mem_cons.1 hi with rfl | hi
      · exact h.1
      · exact ih h.2 i hi
theorem AllL.of {l : List Nat} {p : Nat → Prop} (h : ∀ i ∈ l, p i) : AllL l p := by
  induction l with
  | nil => exact trivial
  | cons x l ih =>
    cases l with
    | nil => exact h x (by simp)
    | cons y l => exact ⟨h x (by simp), ih (fun i hi => h i (List.mem_cons_of_mem _ hi))⟩

theorem putAll_put (vs : Nat → Value) (d : Nat) (v : Value) (l : List Nat) : ∀ a : Act, (∀ j ∈ l, ds j ≠ d) → putAll ds vs l (a.put (some d) v) = (putAll ds vs l a).put (some d) v := by
  induction l with
  | nil => intro a _; rfl
  | cons x l ih =>
    intro a h
    have hx := h x (by simp)
    show putAll ds vs l ((a.put (some d) v).put (some (ds x)) (vs x)) = (putAll ds vs l (a.put (some (ds x)) (vs x))).put (some d) v
    rw [Act.put_comm a v (vs x) (fun e he he' => hx (by injection he with he; injection he' with he'; omega)), ih _ (fun j hj => h j (by simp [hj]))]
theorem putAll_congr {vs vs' : Nat → Value} {l : List Nat} (h : ∀ j ∈ l, vs j = vs' j) : ∀ a : Act, putAll ds vs l a = putAll ds vs' l a := by
  induction l with
  | nil => intro a; rfl
  | cons x l ih =>
    intro a
    show putAll ds vs l (a.put _ (vs x)) = putAll ds vs' l (a.put _ (vs' x))
    rw [h x (by simp), ih (fun j hj => h j (by simp [hj]))]
theorem putAll_size (vs : Nat → Value) (l : List Nat) : ∀ a : Act, (putAll ds vs l a).tmps.size = a.tmps.size := by
  induction l with
  | nil => intro a; rfl
  | cons x l ih =>
    intro a
    show (putAll ds vs l (a.put _ (vs x))).tmps.size = _
    rw [ih]
    simp [Act.put]
theorem putAll_insert {vs vs' : Nat → Value} {i : Nat} {v : Value} {D : Nat → Bool} (hD : D i = false) (hv : vs' i = v) (hvs : ∀ j, j ≠ i → vs' j = vs j) (r : List Nat) : ∀ a : Act, i ∈ r → r.Nodup → (∀ j ∈ r, j ≠ i → ds j ≠ ds i) →
    putAll ds vs' (r.filter (fun j => D j || j == i)) a = (putAll ds vs (r.filter D) a).put (some (ds i)) v := by
  induction r with
  | nil => intro a h; cases h
  | cons x r ih =>
    intro a hi hn hd
    obtain ⟨hx, hn⟩ := List.nodup_cons.1 hn
    by_cases e : x = i
    · subst e
      have h1 : (x :: r).filter (fun j => D j || j == x) = x :: r.filter D := by
        rw [List.filter_cons, if_pos (by simp)]
        congr 1
        apply List.filter_congr
        intro k hk
        have : k ≠ x := fun h => hx (h ▸ hk)
        simp [this]
      have h2 : (x :: r).filter D = r.filter D := by rw [List.filter_cons, if_neg (by simp [hD])]
      rw [h1, h2]
      show putAll ds vs' (r.filter D) (a.put _ (vs' x)) = _
      rw [hv, putAll_put _ _ _ _ _ (fun j hj => hd j (by simp [(List.mem_filter.1 hj).1]) (fun h => hx (h ▸ (List.mem_filter.1 hj).1)))]
      congr 1
      exact putAll_congr (fun j hj => hvs j (fun h => hx (h ▸ (List.mem_filter.1 hj).1))) a
    · have hi' : i ∈ r := (List.mem_cons.1 hi).resolve_left (fun h => e h.symm)
      have hb : (D x || x == i) = D x := by simp [e]
      rw [List.filter_cons, List.filter_cons, hb]
      split
      · show putAll ds vs' _ (a.put _ (vs' x)) = (putAll ds vs _ (a.put _ (vs x))).put _ v
        rw [hvs x e]
        exact ih _ hi' hn (fun j hj => hd j (by simp [hj]))
      · exact ih _ hi' hn (fun j hj => hd j (by simp [hj]))
theorem exec_putAll {o : Oper} (hs : ∀ cs b, o.op ≠ .select cs b) {p : Nat → Bool} (vs : Nat → Value) (l : List Nat) : ∀ a : Act, l.Pairwise (fun i j => ds j ≠ ds i) → (∀ j ∈ l, p j = false → ds j ∉ o.looksAt ops) →
    execOp (putAll ds vs l a).eval o = execOp (putAll ds vs (l.filter p) a).eval o ∧ Region.wanted o (yielded ops (putAll ds vs l a).tmps) = Region.wanted o (yielded ops (putAll ds vs (l.filter p) a).tmps) := by
  induction l with
  | nil => intro a _ _; exact ⟨rfl, rfl⟩
  | cons x l ih =>
    intro a hp h
    obtain ⟨hx, hp⟩ := List.pairwise_cons.1 hp
    have := ih (a.put (some (ds x)) (vs x)) hp (fun j hj => h j (by simp [hj]))
    rw [List.filter_cons]
    cases hpx : p x with
    | true => rw [if_pos rfl]; exact this
    | false =>
      rw [if_neg (by simp)]
      have hx' := h x (by simp) hpx
      have e := putAll_put vs (ds x) (vs x) (l.filter p) a (fun j hj => hx j (List.mem_filter.1 hj).1)
      refine ⟨this.1.trans ?_, this.2.trans ?_⟩
      · rw [e]; exact execOp_put o hs _ _ _ (fun d hd => by injection hd with hd; subst hd; exact hx')
      · rw [e]; exact wanted_put o _ _ _ (fun d hd => by injection hd with hd; subst hd; exact hx')

theorem put_get (a : Act) (d : Nat) (v : Value) (h : d < a.tmps.size) : (a.put (some d) v).tmps.getD d undef = v := by
  simp [Act.put, Array.getD_eq_getD_getElem?, h]
theorem wpOp_move {i : Nat} {o : Oper} (hi : ops[i]? = some o) {d : Nat} (hd : o.dst = some d) {a a' : Act} (he : execOp a.eval o = execOp a'.eval o) (hw : Region.wanted o (yielded ops a.tmps) = Region.wanted o (yielded ops a'.tmps)) (hs : d < a'.tmps.size) {w : World} {G : Value → World → Prop}
    (h : wpOp P ops NoWay i (fun x w' => x.defers = a'.defers ∧ G (x.tmps.getD d undef) w') a' w) : wpOp P ops NoWay i (fun x w' => ∃ v, x = a.put o.dst v ∧ G v w') a w := by
  have hg : ∀ (v : Value) (w' : World), G ((a'.put o.dst v).tmps.getD d undef) w' → G v w' := by
    intro v w' h
    rwa [hd, put_get a' d v hs] at h
  unfold wpOp at *
  simp only [hi] at *
  rw [hw]
  split
  · rename_i hw'
    simp only [hw', if_true] at h
    rcases h with h | ⟨_, _, _, hq⟩
    case inr => exact hq.elim
    refine .inl ?_
    unfold Oper.wp at *
    rw [he]
    generalize (execOp a'.eval o).run P w = r at *
    cases r with
    | ok n w' =>
      cases n <;> simp only [Oper.upon] at h ⊢
      case value u => exact ⟨u, rfl, hg _ _ h.2⟩
      case skip => exact ⟨undef, rfl, hg _ _ h.2⟩
      case defer dd =>
        exfalso
        have h1 : dd :: a'.defers = a'.defers := by have := h.1; rw [hd] at this; exact this
        have := congrArg List.length h1
        simp at this
      case enter f args =>
        refine h.mono fun e w'' hk => ?_
        cases e with
        | returned u => exact ⟨u, rfl, hg _ _ hk.2⟩
        | panicked c => exact hk
        | outgrown => exact hk
      case row row args => exact Rows.mono h fun u w'' hk => ⟨u, rfl, hg _ _ hk.2⟩
    | halt x w' => cases x <;> simp only [Oper.upon] at h ⊢; all_goals exact h.elim
  · rename_i hw'
    simp only [hw'] at h
    exact ⟨undef, rfl, hg _ _ h.2⟩

/-- what an operation of the pool leaves. -/
def Good {B : Nat} (F : Fact B) (cons : List Nat) (vs : Nat → Value) (v : Value) (w w' : World) : Prop :=
  F.T v w' ∧ Keep (fun b => b < w.heap.size ∧ ∀ c ∈ cons, blk (vs c) ≠ some b) w w' ∧ (F.own = true → ∀ b, blk v = some b → w.heap.size ≤ b ∨ ∃ c ∈ cons, blk (vs c) = some b)

def okPool (ops : Array Oper) (ds : Nat → Nat) (r own : List Nat) (cons pre : Nat → List Nat) (N : Nat) : Bool :=
  Region.noSelect ops && (decide r.Nodup && (r.all fun i => match ops[i]? with
    | none => false
    | some o => match o.dst with
      | none => false
      | some d => (ds i == d) && (decide (d < N) && ((r.all fun j => j == i || (ds j != d && ((pre i).contains j || !(o.looksAt ops).contains (ds j)))) &&
        (((pre i).all fun k => r.contains k && (waits (Region.before ops).toList i k && r.all fun c => c == i || (!(cons c).contains k || waits (Region.before ops).toList c i))) &&
          (cons i).all fun c => (pre i).contains c && own.contains c)))))

theorem plan_pool {a1 : Act} {w1 : World} (N : Nat) (ds : Nat → Nat) (r own : List Nat) (F : Nat → Fact w1.heap.size) (cons pre : Nat → List Nat) {p : Plan}
    (hok : okPool ops ds r own cons pre N = true) (hown' : AllL r fun i => (F i).own = own.contains i) (hN : a1.tmps.size = N) (hS : ∀ w, Keep (· < w1.heap.size) w1 w → S w)
    (hob : AllL r fun i => ∀ (vs : Nat → Value) (w : World), Keep (· < w1.heap.size) w1 w → AllL (pre i) (fun d => (F d).T (vs d) w) → ∀ K : Act → World → Prop, (∀ v w', Good (F i) (cons i) vs v w w' → K ((putAll ds vs (r.filter fun j => (pre i).contains j) a1).put (some (ds i)) v) w') →
      wpOp P ops NoWay i K (putAll ds vs (r.filter fun j => (pre i).contains j) a1) w)
    (hend : ∀ (vs : Nat → Value) (w : World), Keep (· < w1.heap.size) w1 w → AllL (r.filter fun j => r.all fun c => !(cons c).contains j) (fun d => (F d).T (vs d) w) →
      (∀ j ∈ r, ∀ k ∈ r, j ≠ k → (r.all fun c => !(cons c).contains j) = true → (r.all fun c => !(cons c).contains k) = true → own.contains j = true → own.contains k = true → ∀ b, blk (vs j) = some b → blk (vs k) ≠ some b) →
      runs P ops S Q p (putAll ds vs r a1) w) : runs P ops S Q (.pool r p) a1 w1 := by
  simp only [okPool, Bool.and_eq_true, decide_eq_true_eq, List.all_eq_true] at hok
  obtain ⟨hsel, hnd, hall⟩ := hok
  have hown := hown'.at_
  have hone : ∀ i ∈ r, ∃ o, ops[i]? = some o ∧ o.dst = some (ds i) ∧ ds i < N ∧ (∀ j ∈ r, j ≠ i → ds j ≠ ds i ∧ ((pre i).contains j = false → ds j ∉ o.looksAt ops)) ∧
      (∀ k ∈ pre i, k ∈ r ∧ waits (Region.before ops).toList i k = true ∧ ∀ c ∈ r, c ≠ i → k ∈ cons c → waits (Region.before ops).toList c i = true) ∧ ∀ c ∈ cons i, c ∈ pre i ∧ own.contains c = true := by
    intro i hi
    have h := hall i hi
    cases ho : ops[i]? with
    | none => simp [ho] at h
    | some o =>
      cases hdd : o.dst with
      | none => simp [ho, hdd] at h
      | some d =>
        simp only [ho, hdd, Bool.and_eq_true, decide_eq_true_eq, List.all_eq_true, Bool.or_eq_true, beq_iff_eq, bne_iff_ne, Bool.not_eq_true', List.contains_iff_mem] at h
        obtain ⟨hd, h1, h2, h3, h4⟩ := h
        refine ⟨o, rfl, by rw [hd]; exact hdd, by rw [hd]; exact h1, fun j hj hne => ?_, fun k hk => ?_, fun c hc => ?_⟩
        · have := (h2 j hj).resolve_left hne
          refine ⟨by rw [hd]; exact this.1, fun hn => ?_⟩
          rcases this.2 with h5 | h5
          · exact absurd h5 (by simpa using hn)
          · simpa using h5
        · have := h3 k hk
          refine ⟨this.1, this.2.1, fun c hc hne hkc => ?_⟩
          rcases (this.2.2 c hc).resolve_left hne with h5 | h5
          · exact absurd hkc (by simpa using h5)
          · exact h5
        · have := h4 c hc
          exact ⟨this.1, by simpa using this.2⟩
  have hpw : ∀ D : Nat → Bool, (r.filter D).Pairwise (fun i j => ds j ≠ ds i) := by
    intro D
    apply List.Pairwise.filter
    refine List.Pairwise.imp_of_mem ?_ hnd
    intro i j hi hj hne
    obtain ⟨o, _, _, _, h, _⟩ := hone i hi
    exact (h j hj (fun e => hne e.symm)).1
  refine ⟨fun l a w => (∀ j ∈ l, j ∈ r) ∧ ∃ vs, a = putAll ds vs (r.filter fun j => !l.contains j) a1 ∧ Keep (· < w1.heap.size) w1 w ∧
      (∀ j ∈ r, j ∉ l → (∀ c ∈ r, j ∈ cons c → c ∈ l) → (F j).T (vs j) w) ∧
      (∀ j ∈ r, ∀ k ∈ r, j ≠ k → j ∉ l → k ∉ l → (∀ c ∈ r, j ∈ cons c → c ∈ l) → (∀ c ∈ r, k ∈ cons c → c ∈ l) → own.contains j = true → own.contains k = true → ∀ b, blk (vs j) = some b → blk (vs k) ≠ some b) ∧
      ∀ k ∈ r, k ∉ l → ∀ j ∈ l, waits (Region.before ops).toList k j = false, ?_, ?_, ?_⟩
  · refine ⟨fun _ h => h, fun _ => undef, ?_, Keep.refl _ _, fun j hj h => absurd hj h, fun j hj _ _ _ h => absurd hj h, fun k hk h => absurd hk h⟩
    have : (r.filter fun j => !r.contains j) = [] := by
      apply List.filter_eq_nil_iff.2
      intro x hx
      simp [hx]
    rw [this]
    rfl
  · rintro l i a w hil hr ⟨hlr, vs, rfl, hk, hT, hdis, hdc⟩
    have hir := hlr i hil
    obtain ⟨o, ho, hod, hdn, hlook, hpre, hcons⟩ := hone i hir
    have hs : ∀ cs b, o.op ≠ .select cs b := fun cs b => Region.noSelect_spec hsel i o cs b ho
    have hpl : ∀ d ∈ pre i, d ∉ l ∧ ∀ c ∈ r, d ∈ cons c → c ∈ l := by
      intro d hd
      obtain ⟨h1, h2, h3⟩ := hpre d hd
      refine ⟨fun h => (by rw [hr d h] at h2; cases h2), fun c hc hdc' => ?_⟩
      by_cases e : c = i
      · rw [e]; exact hil
      · refine Decidable.byContradiction fun hcl => ?_
        have := hdc c hc hcl i hil
        rw [h3 c hc e hdc'] at this
        cases this
    have hTp : ∀ d ∈ pre i, (F d).T (vs d) w := fun d hd => hT d (hpre d hd).1 (hpl d hd).1 (hpl d hd).2
    have hcb : ∀ c ∈ cons i, ∀ b, blk (vs c) = some b → w1.heap.size ≤ b := fun c hc b hb =>
      ((F c).lt (vs c) w (hTp c (hcons c hc).1) ((hown c (hpre c (hcons c hc).1).1).trans (hcons c hc).2) b hb).1
    have hexec := exec_putAll (o := o) hs (p := fun j => (pre i).contains j) vs (r.filter fun j => !l.contains j) a1 (hpw _) (fun j hj hp => by
      obtain ⟨hj1, hj2⟩ := List.mem_filter.1 hj
      have hne : j ≠ i := fun e => by subst e; simp [hil] at hj2
      exact (hlook j hj1 hne).2 hp)
    have hfil : ((r.filter fun j => !l.contains j).filter fun j => (pre i).contains j) = r.filter fun j => (pre i).contains j := by
      rw [List.filter_filter]
      apply List.filter_congr
      intro x hx
      cases hpx : (pre i).contains x with
      | false => simp
      | true =>
        have := (hpl x (by simpa using hpx)).1
        simp [this]
    rw [hfil] at hexec
    have h1 := hob.at_ i hir vs w hk (AllL.of hTp) (fun x w' => x.defers = (putAll ds vs (r.filter fun j => (pre i).contains j) a1).defers ∧ Good (F i) (cons i) vs (x.tmps.getD (ds i) undef) w w') (fun v w' hg => by
      refine ⟨rfl, ?_⟩
      rw [put_get _ _ _ (by rw [putAll_size, hN]; exact hdn)]
      exact hg)
    have h2 := wpOp_move (G := fun v w' => Good (F i) (cons i) vs v w w') ho hod hexec.1 hexec.2 (by rw [putAll_size, hN]; exact hdn) h1
    refine wpOp_mono (fun x w' hx => ?_) h2
    obtain ⟨v, rfl, g1, g2, g3⟩ := hx
    rw [hod]
    have hwB : w1.heap.size ≤ w.heap.size := hk.size
    have hqB : ∀ b, b < w1.heap.size → b < w.heap.size ∧ ∀ c ∈ cons i, blk (vs c) ≠ some b := fun b hb => ⟨by omega, fun c hc h => by have := hcb c hc b h; omega⟩
    have hk' : Keep (· < w1.heap.size) w1 w' := hk.trans (g2.mono hqB)
    have hmem : ∀ x, x ∈ l.filter (· != i) ↔ x ∈ l ∧ x ≠ i := fun x => by simp [List.mem_filter]
    have hli : ∀ j, (∀ c ∈ r, j ∈ cons c → c ∈ l.filter (· != i)) → (∀ c ∈ r, j ∈ cons c → c ∈ l) ∧ j ∉ cons i := fun j hj =>
      ⟨fun c hc hjc => ((hmem c).1 (hj c hc hjc)).1, fun hji => ((hmem i).1 (hj i hir hji)).2 rfl⟩
    have hcdis : ∀ j ∈ r, j ∉ l → (∀ c ∈ r, j ∈ cons c → c ∈ l) → j ∉ cons i → own.contains j = true → ∀ b, blk (vs j) = some b → ∀ c ∈ cons i, blk (vs c) ≠ some b := by
      intro j hj hjl hlive hji hjo b hb c hc
      have hcp := (hcons c hc).1
      exact hdis j hj c (hpre c hcp).1 (fun e => hji (e ▸ hc)) hjl (hpl c hcp).1 hlive (hpl c hcp).2 hjo (hcons c hc).2 b hb
    refine ⟨hS _ hk', fun j hj => hlr j ((hmem j).1 hj).1, fun k => if k = i then v else vs k, ?_, hk', ?_, ?_, ?_⟩
    · have := putAll_insert (vs := vs) (vs' := fun k => if k = i then v else vs k) (i := i) (v := v) (D := fun j => !l.contains j) (by simp [hil]) (by simp) (fun j hj => by simp [hj]) r a1 hir hnd (fun j hj hne => (hlook j hj hne).1)
      rw [← this]
      congr 1
      apply List.filter_congr
      intro x _
      by_cases hx : x = i
      · subst hx; simp
      · simp [List.mem_filter, hx]
    · intro j hj hjl hlive
      by_cases e : j = i
      · subst e; simp only [if_true]; exact g1
      · simp only [e, if_false]
        have hjl' : j ∉ l := fun h => hjl ((hmem j).2 ⟨h, e⟩)
        obtain ⟨hl1, hl2⟩ := hli j hlive
        have ht := hT j hj hjl' hl1
        exact (F j).st _ _ _ _ ht g2 hqB (fun ho b hb => ⟨((F j).lt _ _ ht ho b hb).2, hcdis j hj hjl' hl1 hl2 ((hown j hj).symm.trans ho) b hb⟩)
    · intro j hj k hkr hne hjl hkl hlj hlk hoj hok b hb hb'
      have hnew : ∀ k ∈ r, k ≠ i → k ∉ l.filter (· != i) → (∀ c ∈ r, k ∈ cons c → c ∈ l.filter (· != i)) → own.contains k = true → own.contains i = true → blk v = some b → blk (vs k) = some b → False := by
        intro k hkr hki hkl hlk hok hoi hv hvk
        have hkl' : k ∉ l := fun h => hkl ((hmem k).2 ⟨h, hki⟩)
        obtain ⟨hl1, hl2⟩ := hli k hlk
        have ht := hT k hkr hkl' hl1
        rcases g3 ((hown i hir).trans hoi) b hv with h | ⟨c, hc, h⟩
        · have := ((F k).lt _ _ ht ((hown k hkr).trans hok) b hvk).2
          omega
        · exact hcdis k hkr hkl' hl1 hl2 hok b hvk c hc h
      by_cases ej : j = i
      · subst ej
        have hki : k ≠ j := fun h => hne h.symm
        simp only [if_true] at hb
        simp only [hki, if_false] at hb'
        exact hnew k hkr hki hkl hlk hok hoj hb hb'
      · by_cases ek : k = i
        · subst ek
          simp only [if_true] at hb'
          simp only [ej, if_false] at hb
          exact hnew j hj ej hjl hlj hoj hok hb' hb
        · simp only [ej, if_false] at hb
          simp only [ek, if_false] at hb'
          exact hdis j hj k hkr hne (fun h => hjl ((hmem j).2 ⟨h, ej⟩)) (fun h => hkl ((hmem k).2 ⟨h, ek⟩)) (hli j hlj).1 (hli k hlk).1 hoj hok b hb hb'
    · intro k hkr hkl j hj
      obtain ⟨hj1, hj2⟩ := (hmem j).1 hj
      by_cases e : k = i
      · subst e; exact hr j hj1
      · exact hdc k hkr (fun h => hkl ((hmem k).2 ⟨h, e⟩)) j hj1
  · rintro a w ⟨_, vs, rfl, hk, hT, hdis, _⟩
    have e : (r.filter fun j => !([] : List Nat).contains j) = r := by
      apply List.filter_eq_self.2
      intro x _
      simp
    rw [e]
    have hlive : ∀ j, (r.all fun c => !(cons c).contains j) = true → ∀ c ∈ r, j ∈ cons c → c ∈ ([] : List Nat) := by
      intro j hj c hc hjc
      have := List.all_eq_true.1 hj c hc
      simp [hjc] at this
    refine hend vs w hk (AllL.of fun d hd => ?_) (fun j hj k hkr hne h1 h2 => hdis j hj k hkr hne (by simp) (by simp) (hlive j h1) (hlive k h2))
    obtain ⟨hd1, hd2⟩ := List.mem_filter.1 hd
    exact hT d hd1 (by simp) (hlive d hd2)

/-- a row made whole. -/
theorem row_of_block {w : World} {b : Nat} {E : TypeId} {cs : List Value} (h : w.heap[b]? = some (.cells cs.toArray E (0, 0))) (hl : cs.length ≤ maxLen) : Row w E (.slice (some ⟨b, 0, none⟩) cs.length cs.length) cs :=
  ⟨(Nat.mul_one _).symm, .inr ⟨b, cs.length, cs.toArray, rfl, Nat.zero_le _, h, Nat.le_refl _, hl, by simp, by simp⟩⟩
theorem pool_row {B : Nat} {E : TypeId} {cs : List Value} {cons : List Nat} {vs : Nat → Value} {v : Value} {w w' : World} (r : Row w' E v cs) (k : Keep (· < w.heap.size) w w') (ho : ∀ b, v.ownBlock = some b → w.heap.size ≤ b) (hB : B ≤ w.heap.size) : Good (Fact.row B E cs) cons vs v w w' := by
  refine ⟨⟨r, fun b hb => Nat.le_trans hB (ho b hb)⟩, k.mono (fun b h => h.1), fun _ b hb => .inl ?_⟩
  obtain ⟨a, c, rfl⟩ := r.form
  cases a with
  | none => cases hb
  | some a => exact ho b hb
/-- a row made whole in a new block. -/
theorem pool_block {B : Nat} {E : TypeId} {cs : List Value} {cons : List Nat} {vs : Nat → Value} {w w' : World} (h : w'.heap[w.heap.size]? = some (.cells cs.toArray E (0, 0))) (hl : cs.length ≤ maxLen) (k : Keep (· < w.heap.size) w w') (hB : B ≤ w.heap.size) : Good (Fact.row B E cs) cons vs (.slice (some ⟨w.heap.size, 0, none⟩) cs.length cs.length) w w' :=
  pool_row (row_of_block h hl) k (fun b hb => by have : w.heap.size = b := Option.some.inj hb; omega) hB
theorem pool_is {B : Nat} {v : Value} {cons : List Nat} {vs : Nat → Value} {w w' : World} (k : Keep (· < w.heap.size) w w') : Good (Fact.is B v) cons vs v w w' := ⟨rfl, k.mono (fun b h => h.1), fun h => by cases h⟩
/-- a row that has grown. -/
theorem pool_grown {B : Nat} {E : TypeId} {cs cs' : List Value} {c : Nat} {vs : Nat → Value} {v : Value} {w w' : World} (hc : (Fact.row B E cs).T (vs c) w) (r : Row w' E v cs') (k : Keep (fun k => k < w.heap.size ∧ (vs c).ownBlock ≠ some k) w w') (o : ∀ k, v.ownBlock = some k → (vs c).ownBlock = some k ∨ w.heap.size ≤ k) (hB : B ≤ w.heap.size) : Good (Fact.row B E cs') [c] vs v w w' := by
  refine ⟨⟨r, fun b hb => ?_⟩, k.mono (fun b h => ⟨h.1, fun h' => h.2 c (by simp) (own_blk h')⟩), fun _ b hb => ?_⟩
  · rcases o b hb with h | h
    · exact hc.2 b h
    · exact Nat.le_trans hB h
  · have hb' : v.ownBlock = some b := by
      obtain ⟨a, c, rfl⟩ := r.form
      cases a with
      | none => cases hb
      | some a => exact hb
    rcases o b hb' with h | h
    · exact .inr ⟨c, by simp, own_blk h⟩
    · exact .inl h
/-- an operation of the pool, to be walked. -/
theorem pool_op {i : Nat} {o : Oper} {a : Act} {w : World} {K : Act → World → Prop} (hi : ops[i]? = some o) (hg : Region.wanted o (yielded ops a.tmps) = true) (h : o.wp P a w K NoWay) : wpOp P ops NoWay i K a w := by
  unfold wpOp
  simp only [hi]
  rw [if_pos hg]
  exact .inl h
/-- an append of the pool, its run told. -/
theorem pool_app {i : Nat} {o : Oper} {a : Act} {w : World} {K : Act → World → Prop} (hi : ops[i]? = some o) (hg : Region.wanted o (yielded ops a.tmps) = true) (s x : Operand) (T T' : TypeId)
    (ho : o.op = .call { callee := .builtin .append, args := #[s, x], argTypes := #[T, T'] }) (R : Value → World → Prop)
    (hr : ∃ v' w', (Builtin.append_ #[T, T'] o.type #[a.eval s, a.eval x]).run P w = .ok v' w' ∧ R v' w') (h : ∀ v' w', R v' w' → K (a.put o.dst v') w') : wpOp P ops NoWay i K a w := by
  obtain ⟨v', w', hr, hR⟩ := hr
  refine pool_op hi hg ?_
  unfold Oper.wp execOp
  simp only [ho, resolve, invoke, builtin, Sem.run_bind, Sem.run_pure, Result.andThen_ok, List.map_toArray, List.map_cons, List.map_nil, hr]
  exact h _ _ hR
/-- a struct stored whole, in a chained operation. -/
theorem plan_store_row {o : Oper} {i : Nat} {p : Plan} {a : Act} {w : World} (hi : ops[i]? = some o) (hg : Region.wanted o (yielded ops a.tmps) = true) (ty : TypeId) (x y : Operand) (ho : o.op = .store ty x y)
    (g : Nat) (cells : Array Value) (hx : a.eval x = .pointer (some ⟨g, 0, none⟩)) (hy : a.eval y = .agg cells) (t : TypeId) (old : Array Value) (hc : w.heap[g]? = some (.cells old t (0, 0))) (hs : (P.info? ty).map (·.size) = some cells.size)
    (hold : old.size = cells.size) (h1 : cells.all (·.oneCell') = true) (h : S (w.setRow g cells) ∧ runs P ops S Q p (a.put o.dst undef) (w.setRow g cells)) : runs P ops S Q (.one i p) a w :=
  plan_one hi hg (fun _ hK => wp_store_row ty x y ho g cells hx hy t old hc hs hold h1 (hK _ _ h))
end
end Go.Proofs.Txt
