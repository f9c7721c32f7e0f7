/-
  A region that draws its order and in which some of the chained operations stand in no order: one walk for each of their orders, by a plan that tells them.
-/
import Derived.Test.YtnpneippahdigaaDoorTxt
namespace Go.Proofs.Txt
open Go

/-- which operation comes next: a free one · a chained one · the last of all · two ways to go on. -/
inductive Plan where
  | done
  | free (i : Nat) (p : Plan)
  | one (i : Nat) (p : Plan)
  | last (i : Nat)
  | alt (p q : Plan)
  | pool (r : List Nat) (p : Plan)

def Plan.heads : Plan → List Nat
  | .one i _ => [i]
  | .last i => [i]
  | .alt p q => p.heads ++ q.heads
  | .pool r _ => r
  | _ => []
/-- every operation that may come next is told, and none of them is free. -/
def complete (fr : Nat → Bool) (W : Nat → Nat → Bool) (hs l : List Nat) : Bool := l.all fun i => l.any (fun j => W i j) || (!fr i && hs.contains i)
/-- what stands behind a pool. -/
def rest (r l : List Nat) : List Nat := l.filter (fun k => !r.contains k)
def Plan.good (n : Nat) (fr : Nat → Bool) (W : Nat → Nat → Bool) : Plan → Bool → List Nat → Bool
  | .done, _, l => l.isEmpty
  | .free i p, t, l => t && (fr i && (l.contains i && (l.all (fun j => !W i j) && p.good n fr W true (l.filter (· != i)))))
  | .one i p, t, l => (!t || complete fr W [i] l) && (!fr i && (l.contains i && (l.all (fun j => !W i j) && p.good n fr W true (l.filter (· != i)))))
  | .last i, _, l => (l == [i]) && (!fr i && (List.range n).all (fun j => j == i || W i j))
  | .alt p q, t, l => (!t || complete fr W (p.heads ++ q.heads) l) && (p.good n fr W false l && q.good n fr W false l)
  | .pool r p, _, l => !r.isEmpty && (r.all (fun i => l.contains i && !fr i) && ((rest r l).all (fun k => r.all (fun j => W k j)) && p.good n fr W true (rest r l)))
def Plan.drop (i : Nat) : Plan → Plan
  | .done => .done
  | .free j p => if j = i then p else .free j (p.drop i)
  | .one j p => .one j (p.drop i)
  | .last j => .last j
  | .alt p q => .alt (p.drop i) (q.drop i)
  | .pool r p => .pool r p
def Plan.take (i : Nat) : Plan → Plan
  | .done => .done
  | .free j p => .free j (p.take i)
  | .one _ p => p
  | .last _ => .done
  | .alt p q => if p.heads.contains i then p.take i else q.take i
  | .pool r p => if (r.filter (· != i)).isEmpty then p else .pool (r.filter (· != i)) p
def Plan.ends (i : Nat) : Plan → Bool
  | .free _ p => p.ends i
  | .last _ => true
  | .alt p q => if p.heads.contains i then p.ends i else q.ends i
  | _ => false

section
variable {P : Program} {ops : Array Oper} {S : World → Prop} {Q : Exit → Act → World → Prop}

def runs (P : Program) (ops : Array Oper) (S : World → Prop) (Q : Exit → Act → World → Prop) : Plan → Act → World → Prop
  | .done, a, w => Q .normal a w
  | .free i p, a, w => match ops[i]? with
    | none => False
    | some o => ∃ v, YieldsIf P ops S o v a ∧ runs P ops S Q p (a.put o.dst v) w
  | .one i p, a, w => wpOp P ops NoWay i (fun a' w' => S w' ∧ runs P ops S Q p a' w') a w
  | .last i, a, w => wpOp P ops NoWay i (fun a' w' => Q .normal a' w') a w
  | .alt p q, a, w => runs P ops S Q p a w ∧ runs P ops S Q q a w
  | .pool r p, a, w => ∃ J : List Nat → Act → World → Prop, J r a w ∧
    (∀ l i a w, i ∈ l → (∀ j ∈ l, waits (Region.before ops).toList i j = false) → J l a w → wpOp P ops NoWay i (fun a' w' => S w' ∧ J (l.filter (· != i)) a' w') a w) ∧
    ∀ a w, J [] a w → runs P ops S Q p a w

/-- what the looks of the operations allow. -/
def looseOk2 (ops : Array Oper) (fr : Nat → Bool) (W : Nat → Nat → Bool) : Bool := (List.range ops.size).all fun i => (List.range ops.size).all fun j => !fr i || i == j || W i j || W j i || match ops[i]?, ops[j]? with
  | some oi, some oj => oi.apart ops oj && oj.apart ops oi
  | _, _ => false
def Loose2 (ops : Array Oper) (fr : Nat → Bool) (W : Nat → Nat → Bool) : Prop := ∀ i j oi oj, ops[i]? = some oi → ops[j]? = some oj → fr i = true → i ≠ j → W i j = false → W j i = false → oi.apart ops oj = true ∧ oj.apart ops oi = true
theorem loose2_of {fr : Nat → Bool} {W : Nat → Nat → Bool} (h : looseOk2 ops fr W = true) : Loose2 ops fr W := by
  intro i j oi oj hi hj hf hne h1 h2
  have := List.all_eq_true.1 (List.all_eq_true.1 h i (List.mem_range.2 (Array.getElem?_eq_some_iff.1 hi).1)) j (List.mem_range.2 (Array.getElem?_eq_some_iff.1 hj).1)
  simp [hf, hne, h1, h2, hi, hj] at this
  exact this

variable {n : Nat} {fr : Nat → Bool} {W : Nat → Nat → Bool}

theorem pool_ready {r l : List Nat} {p : Plan} {t : Bool} (hg : (Plan.pool r p).good n fr W t l = true) {i : Nat} (hi : i ∈ l) (hr : ∀ j ∈ l, W i j = false) : i ∈ r ∧ fr i = false := by
  simp only [Plan.good, Bool.and_eq_true, Bool.not_eq_true', List.isEmpty_eq_false_iff, List.all_eq_true, List.contains_iff_mem] at hg
  obtain ⟨h0, h1, h2, _⟩ := hg
  by_cases hir : i ∈ r
  · exact ⟨hir, (h1 i hir).2⟩
  · exfalso
    obtain ⟨j, hj⟩ := List.exists_mem_of_ne_nil r h0
    have := h2 i (List.mem_filter.2 ⟨hi, by simp [hir]⟩) j hj
    rw [hr j (h1 j hj).1] at this
    cases this
theorem pool_take {r l : List Nat} {p : Plan} {t : Bool} (hg : (Plan.pool r p).good n fr W t l = true) {i : Nat} (hir : i ∈ r) : ((Plan.pool r p).take i).good n fr W true (l.filter (· != i)) = true := by
  simp only [Plan.good, Bool.and_eq_true, Bool.not_eq_true', List.isEmpty_eq_false_iff, List.all_eq_true, List.contains_iff_mem] at hg
  obtain ⟨h0, h1, h2, h3⟩ := hg
  have e : rest (r.filter (· != i)) (l.filter (· != i)) = rest r l := by
    unfold rest
    rw [List.filter_filter]
    apply List.filter_congr
    intro k _
    by_cases hk : k = i
    · subst hk; simp [hir]
    · simp [hk]
  have e' : r.filter (· != i) = [] → l.filter (· != i) = rest r l := by
    intro hn
    unfold rest
    apply List.filter_congr
    intro k _
    by_cases hk : k = i
    · subst hk; simp [hir]
    · have : k ∉ r := fun hk' => by
        have : k ∈ r.filter (· != i) := List.mem_filter.2 ⟨hk', by simp [hk]⟩
        rw [hn] at this; cases this
      simp [hk, this]
  unfold Plan.take
  by_cases hn : r.filter (· != i) = []
  · rw [if_pos (by simpa using hn), e' hn]; exact h3
  · rw [if_neg (by simpa using hn)]
    simp only [Plan.good, Bool.and_eq_true, Bool.not_eq_true', List.isEmpty_eq_false_iff, List.all_eq_true, List.contains_iff_mem]
    rw [e]
    exact ⟨hn, fun k hk => ⟨List.mem_filter.2 ⟨(h1 k (List.mem_filter.1 hk).1).1, (List.mem_filter.1 hk).2⟩, (h1 k (List.mem_filter.1 hk).1).2⟩, fun k hk j hj => h2 k hk j (List.mem_filter.1 hj).1, h3⟩
theorem pool_step {r l : List Nat} {p : Plan} {t : Bool} (hg : (Plan.pool r p).good n fr (waits (Region.before ops).toList) t l = true) {i : Nat} (hir : i ∈ r) (hr : ∀ j ∈ l, waits (Region.before ops).toList i j = false) {a : Act} {w : World}
    (h : runs P ops S Q (.pool r p) a w) : wpOp P ops NoWay i (fun a' w' => S w' ∧ runs P ops S Q ((Plan.pool r p).take i) a' w') a w := by
  simp only [Plan.good, Bool.and_eq_true, List.all_eq_true, List.contains_iff_mem] at hg
  obtain ⟨J, hJ, hs, he⟩ := h
  refine wpOp_mono (fun a' w' hk => ⟨hk.1, ?_⟩) (hs r i a w hir (fun j hj => hr j (hg.2.1 j hj).1) hJ)
  unfold Plan.take
  by_cases hn : r.filter (· != i) = []
  · rw [if_pos (by simpa using hn)]
    have := hk.2
    rw [hn] at this
    exact he _ _ this
  · rw [if_neg (by simpa using hn)]
    exact ⟨J, hk.2, hs, he⟩

theorem complete_spec {hs l : List Nat} (h : complete fr W hs l = true) {i : Nat} (hi : i ∈ l) (hr : ∀ j ∈ l, W i j = false) : fr i = false ∧ i ∈ hs := by
  have h1 := List.all_eq_true.1 h i hi
  simp only [Bool.or_eq_true, List.any_eq_true, Bool.and_eq_true, Bool.not_eq_true', List.contains_iff_mem] at h1
  rcases h1 with ⟨j, hj, hw⟩ | h1
  · rw [hr j hj] at hw; cases hw
  · exact h1
theorem filter_filter_comm (l : List Nat) (i j : Nat) : (l.filter (· != i)).filter (· != j) = (l.filter (· != j)).filter (· != i) := by
  rw [List.filter_filter, List.filter_filter]
  apply List.filter_congr
  intro k _
  exact Bool.and_comm _ _

theorem bring2_free (hsel : Region.noSelect ops = true) (hL : Loose2 ops fr W) {i : Nat} {oi : Oper} (hi : ops[i]? = some oi) (hfi : fr i = true) (p : Plan) :
    ∀ (l : List Nat) (a : Act) (w : World), S w → p.good n fr W true l = true → i ∈ l → (∀ j ∈ l, W i j = false) → runs P ops S Q p a w →
      ∃ v, YieldsIf P ops S oi v a ∧ runs P ops S Q (p.drop i) (a.put oi.dst v) w ∧ (p.drop i).good n fr W true (l.filter (· != i)) = true := by
  induction p with
  | done =>
    intro l a w _ hg hil _ _
    simp only [Plan.good, List.isEmpty_iff] at hg
    subst hg
    cases hil
  | free j p ih =>
    intro l a w hS hg hil hr h
    simp only [Plan.good, Bool.and_eq_true, List.all_eq_true, Bool.not_eq_true'] at hg
    obtain ⟨_, hfj, hjl, hjr, hg⟩ := hg
    simp only [runs] at h
    cases hj : ops[j]? with
    | none => simp only [hj] at h
    | some oj =>
      simp only [hj] at h
      obtain ⟨u, hu, h⟩ := h
      by_cases e : j = i
      · subst e
        obtain rfl : oj = oi := Option.some.inj (hj.symm.trans hi)
        simp only [Plan.drop, if_true]
        exact ⟨u, hu, h, hg⟩
      · have hne : i ≠ j := fun h => e h.symm
        have hjl' : j ∈ l := by simpa using hjl
        obtain ⟨hap, _⟩ := hL i j oi oj hi hj hfi hne (hr j hjl') (hjr i hil)
        obtain ⟨p1, p2, p3⟩ := Oper.apart_spec hap
        have hsi : ∀ cs b, oi.op ≠ .select cs b := fun cs b => Region.noSelect_spec hsel i oi cs b hi
        have hsj : ∀ cs b, oj.op ≠ .select cs b := fun cs b => Region.noSelect_spec hsel j oj cs b hj
        obtain ⟨v, hv, h, hg'⟩ := ih _ _ w hS hg (by simp [hil, hne]) (fun k hk => hr k (List.mem_filter.1 hk).1) h
        refine ⟨v, hv.of_same (execOp_put oi hsi a oj.dst u p3).symm (wanted_put oi a oj.dst u p3).symm, ?_, ?_⟩
        · simp only [Plan.drop, if_neg e, runs, hj]
          refine ⟨u, hu.of_same (execOp_put oj hsj a oi.dst v p1) (wanted_put oj a oi.dst v p1), ?_⟩
          rwa [Act.put_comm a v u p2]
        · simp only [Plan.drop, if_neg e, Plan.good, Bool.and_eq_true, List.all_eq_true, Bool.not_eq_true']
          refine ⟨trivial, hfj, by simpa [e] using hjl', fun k hk => hjr k (List.mem_filter.1 hk).1, ?_⟩
          rw [filter_filter_comm]; exact hg'
  | one j p _ =>
    intro l a w _ hg hil hr _
    simp only [Plan.good, Bool.and_eq_true, Bool.not_true, Bool.false_or] at hg
    have := (complete_spec hg.1 hil hr).1
    rw [hfi] at this; cases this
  | last j =>
    intro l a w _ hg hil _ _
    simp only [Plan.good, Bool.and_eq_true, beq_iff_eq, Bool.not_eq_true'] at hg
    obtain ⟨rfl, hfj, _⟩ := hg
    simp only [List.mem_singleton] at hil
    subst hil
    rw [hfi] at hfj; cases hfj
  | alt p q _ _ =>
    intro l a w _ hg hil hr _
    simp only [Plan.good, Bool.and_eq_true, Bool.not_true, Bool.false_or] at hg
    have := (complete_spec hg.1 hil hr).1
    rw [hfi] at this; cases this
  | pool r p _ =>
    intro l a w _ hg hil hr _
    have := (pool_ready hg hil hr).2
    rw [hfi] at this; cases this

theorem pick_head {i : Nat} (hW : W = waits (Region.before ops).toList) (p : Plan) : ∀ (t : Bool) (l : List Nat) (a : Act) (w : World), (∀ j ∈ l, W i j = false) → p.good n fr W t l = true → i ∈ p.heads → runs P ops S Q p a w →
    wpOp P ops NoWay i (fun a' w' => (p.ends i = true ∨ S w') ∧ runs P ops S Q (p.take i) a' w') a w ∧ (p.take i).good n fr W true (l.filter (· != i)) = true ∧ (p.ends i = true → ∀ j, j < n → j ≠ i → W i j = true) := by
  induction p with
  | done => intro t l a w _ _ h _; cases h
  | free j p _ => intro t l a w _ _ h _; cases h
  | one j p _ =>
    intro t l a w hr hg hi h
    simp only [Plan.heads, List.mem_singleton] at hi
    subst hi
    simp only [Plan.good, Bool.and_eq_true] at hg
    refine ⟨?_, hg.2.2.2.2, fun h => by cases h⟩
    simp only [runs] at h
    exact wpOp_mono (fun a' w' hk => ⟨.inr hk.1, hk.2⟩) h
  | last j =>
    intro t l a w hr hg hi h
    simp only [Plan.heads, List.mem_singleton] at hi
    subst hi
    simp only [Plan.good, Bool.and_eq_true, beq_iff_eq, List.all_eq_true, List.mem_range, Bool.or_eq_true] at hg
    obtain ⟨rfl, _, hw⟩ := hg
    refine ⟨?_, by simp [Plan.take, Plan.good], fun _ j hj hne => ?_⟩
    · simp only [runs] at h
      exact wpOp_mono (fun a' w' hk => ⟨.inl rfl, hk⟩) h
    · rcases hw j hj with h1 | h1
      · exact absurd h1 hne
      · exact h1
  | alt p q ihp ihq =>
    intro t l a w hr hg hi h
    simp only [Plan.good, Bool.and_eq_true] at hg
    obtain ⟨_, hgp, hgq⟩ := hg
    simp only [Plan.heads, List.mem_append] at hi
    simp only [Plan.take, Plan.ends]
    by_cases hp : i ∈ p.heads
    · have hc : p.heads.contains i = true := by simpa using hp
      simp only [hc, if_true]
      exact ihp false l a w hr hgp hp h.1
    · have hc : p.heads.contains i = false := by simpa using hp
      simp only [hc, Bool.false_eq_true, if_false]
      exact ihq false l a w hr hgq (hi.resolve_left hp) h.2
  | pool r p _ =>
    intro t l a w hr hg hi h
    subst hW
    exact ⟨wpOp_mono (fun a' w' hk => ⟨.inr hk.1, hk.2⟩) (pool_step hg hi hr h), pool_take hg hi, fun h => by cases h⟩

theorem bring2_chained (hW : W = waits (Region.before ops).toList) (hsel : Region.noSelect ops = true) (hL : Loose2 ops fr W) (hn : n = ops.size) {i : Nat} {oi : Oper} (hi : ops[i]? = some oi) (hfi : fr i = false) (p : Plan) :
    ∀ (l : List Nat) (a : Act) (w : World), p.good n fr W true l = true → i ∈ l → (∀ j ∈ l, W i j = false) → runs P ops S Q p a w →
      wpOp P ops NoWay i (fun a' w' => (p.ends i = true ∨ S w') ∧ runs P ops S Q (p.take i) a' w') a w ∧ (p.take i).good n fr W true (l.filter (· != i)) = true ∧ (p.ends i = true → ∀ j, j < n → j ≠ i → W i j = true) := by
  induction p with
  | done =>
    intro l a w hg hil _ _
    simp only [Plan.good, List.isEmpty_iff] at hg
    subst hg
    cases hil
  | free j p ih =>
    intro l a w hg hil hr h
    simp only [Plan.good, Bool.and_eq_true, List.all_eq_true, Bool.not_eq_true'] at hg
    obtain ⟨_, hfj, hjl, hjr, hg⟩ := hg
    have hjl' : j ∈ l := by simpa using hjl
    simp only [runs] at h
    cases hj : ops[j]? with
    | none => simp only [hj] at h
    | some oj =>
      simp only [hj] at h
      obtain ⟨u, hu, h⟩ := h
      have hne : i ≠ j := fun h => by rw [h] at hfi; rw [hfi] at hfj; cases hfj
      obtain ⟨hap, _⟩ := hL j i oj oi hj hi hfj (fun h => hne h.symm) (hjr i hil) (hr j hjl')
      obtain ⟨h1, h2, h3⟩ := ih _ _ w hg (by simp [hil, hne]) (fun k hk => hr k (List.mem_filter.1 hk).1) h
      have hjn : j < n := by rw [hn]; exact (Array.getElem?_eq_some_iff.1 hj).1
      refine ⟨?_, ?_, h3⟩
      · have h := wpOp_putIf hi hap (fun cs b => Region.noSelect_spec hsel j oj cs b hj) (fun cs b => Region.noSelect_spec hsel i oi cs b hi) (fun _ _ _ hq => hq) hu h1
        refine wpOp_mono (fun a' w' hk => ⟨hk.2.1, ?_⟩) h
        simp only [Plan.take, runs, hj]
        exact ⟨u, hk.1, hk.2.2⟩
      · simp only [Plan.take, Plan.good, Bool.and_eq_true, List.all_eq_true, Bool.not_eq_true']
        refine ⟨trivial, hfj, by simp only [List.contains_iff_mem, List.mem_filter, bne_iff_ne, ne_eq]; exact ⟨hjl', fun h => hne h.symm⟩, fun k hk => hjr k (List.mem_filter.1 hk).1, ?_⟩
        rw [filter_filter_comm]; exact h2
  | one j p _ =>
    intro l a w hg hil hr h
    have hc : complete fr W [j] l = true := by
      simp only [Plan.good, Bool.and_eq_true, Bool.not_true, Bool.false_or] at hg
      exact hg.1
    exact pick_head hW _ true l a w hr hg (complete_spec hc hil hr).2 h
  | last j =>
    intro l a w hg hil hr h
    have hc : l = [j] := by
      simp only [Plan.good, Bool.and_eq_true, beq_iff_eq] at hg
      exact hg.1
    subst hc
    exact pick_head hW _ true _ a w hr hg hil h
  | alt p q _ _ =>
    intro l a w hg hil hr h
    have hc : complete fr W (p.heads ++ q.heads) l = true := by
      simp only [Plan.good, Bool.and_eq_true, Bool.not_true, Bool.false_or] at hg
      exact hg.1
    exact pick_head hW _ true l a w hr hg (complete_spec hc hil hr).2 h
  | pool r p _ =>
    intro l a w hg hil hr h
    exact pick_head hW _ true l a w hr hg (pool_ready hg hil hr).1 h

theorem todo_set {listed : Array Bool} (_ : listed.size = ops.size) (i : Nat) : todo ops (listed.setIfInBounds i true) = (todo ops listed).filter (· != i) := by
  unfold todo
  rw [List.filter_filter]
  apply List.filter_congr
  intro k hk
  have hk := List.mem_range.1 hk
  by_cases e : i = k
  · subst e
    have : (listed.setIfInBounds i true).getD i true = true := by simp [Array.getD_eq_getD_getElem?]
    rw [this]; simp
  · rw [getD_set_ne true e]
    have hb : (k != i) = true := by rw [bne_iff_ne]; exact fun h => e h.symm
    rw [hb, Bool.true_and]

theorem any_of_plan {B : List Nat} (hBe : B = (Region.before ops).toList) (hsel : Region.noSelect ops = true) (hB : bitsOk ops B = true) (hL : Loose2 ops fr (waits B)) (m : Nat) : ∀ (listed : Array Bool) (p : Plan) (a : Act) (w : World), listed.size = ops.size → Closed ops listed → (todo ops listed).length = m → (todo ops listed = [] ∨ S w) →
    p.good ops.size fr (waits B) true (todo ops listed) = true → runs P ops S Q p a w → wpAny P .any ops Q m listed a w := by
  have hready : ∀ listed : Array Bool, listed.size = ops.size → Closed ops listed → ∀ i, i ∈ Region.ready .any ops listed → i ∈ todo ops listed ∧ ∀ j ∈ todo ops listed, waits B i j = false := by
    intro listed hsz hc i hi
    obtain ⟨hiu, oi, hoi, hall⟩ := mem_ready.1 hi
    refine ⟨List.mem_filter.2 ⟨List.mem_range.2 (Array.getElem?_eq_some_iff.1 hoi).1, by simp [hiu]⟩, fun j hj => ?_⟩
    cases hw : waits B i j with
    | false => rfl
    | true =>
      exfalso
      have hji : j < i := by simp only [waits, Bool.and_eq_true, decide_eq_true_eq] at hw; exact hw.1
      have h1 := waits_listed hB hc i oi hoi hall j hji hw
      have hju : listed.getD j true = false := by simpa using (List.mem_filter.1 hj).2
      rw [unlisted hju] at h1
      cases h1
  induction m with
  | zero =>
    intro listed p a w hsz hc hn _ hg h
    have h0 : todo ops listed = [] := List.eq_nil_of_length_eq_zero hn
    rw [h0] at hg
    have hp : ∀ (r : Plan) (t : Bool), r.good ops.size fr (waits B) t [] = true → runs P ops S Q r a w → Q .normal a w := by
      intro r
      induction r with
      | done => exact fun _ _ h => h
      | free j p _ => intro t hr; simp [Plan.good] at hr
      | one j p _ => intro t hr; simp [Plan.good] at hr
      | last j => intro t hr; simp [Plan.good] at hr
      | alt p q ihp _ =>
        intro t hr h
        simp only [Plan.good, Bool.and_eq_true] at hr
        exact ihp false hr.2.1 h.1
      | pool r p _ =>
        intro t hr
        simp only [Plan.good, Bool.and_eq_true, Bool.not_eq_true', List.isEmpty_eq_false_iff, List.all_eq_true, List.contains_iff_mem] at hr
        obtain ⟨j, hj⟩ := List.exists_mem_of_ne_nil r hr.1
        have := (hr.2.1 j hj).1
        cases this
    refine ⟨?_, hp p true hg h⟩
    apply List.eq_nil_iff_forall_not_mem.2
    intro i hi
    have := (hready listed hsz hc i hi).1
    rw [h0] at this
    cases this
  | succ m ih =>
    intro listed p a w hsz hc hn hS hg h
    have hS : S w := hS.resolve_left (fun h0 => by rw [h0] at hn; cases hn)
    refine ⟨fun hr => ?_, fun i hi => ?_⟩
    · exfalso
      cases ht : todo ops listed with
      | nil => rw [ht] at hn; cases hn
      | cons i l =>
        have hmem : i ∈ todo ops listed := by rw [ht]; simp
        obtain ⟨hir, hiu⟩ := List.mem_filter.1 hmem
        have hiu' : listed.getD i true = false := by simpa using hiu
        have hsorted : (todo ops listed).Pairwise (· < ·) := List.Pairwise.filter _ List.pairwise_lt_range
        rw [ht] at hsorted
        have hsmall : ∀ j, j < i → listed.getD j false = true := by
          intro j hj
          cases hq : listed.getD j true with
          | true =>
            have hjs : j < listed.size := by have := List.mem_range.1 hir; omega
            rw [Array.getD_eq_getD_getElem?, Array.getElem?_eq_getElem hjs] at *
            simpa using hq
          | false =>
            exfalso
            have hj2 : j ∈ todo ops listed := List.mem_filter.2 ⟨List.mem_range.2 (by have := List.mem_range.1 hir; omega), by simp [hq]⟩
            rw [ht] at hj2
            rcases List.mem_cons.1 hj2 with h6 | h6
            · omega
            · have := (List.pairwise_cons.1 hsorted).1 j h6
              omega
        have hlt := List.mem_range.1 hir
        have hready : i ∈ Region.ready .any ops listed := mem_ready.2 ⟨hiu', ops[i], Array.getElem?_eq_getElem hlt, fun e he hb => by
          have h1 := List.all_eq_true.1 hB i hir
          simp only [Array.getElem?_eq_getElem hlt, Bool.and_eq_true] at h1
          have h2 := List.all_eq_true.1 h1.1 e (by simpa using he)
          simp only [hb, Bool.not_true, Bool.false_or, decide_eq_true_eq] at h2
          exact hsmall e.on h2⟩
        rw [hr] at hready
        cases hready
    · obtain ⟨hil, hr⟩ := hready listed hsz hc i hi
      obtain ⟨hiu, oi, hoi, hall⟩ := mem_ready.1 hi
      have hsz' : (listed.setIfInBounds i true).size = ops.size := by simpa using hsz
      have hc' : Closed ops (listed.setIfInBounds i true) := by
        intro j oj hoj hl e he hb
        by_cases hji : i = j
        · subst hji
          obtain rfl : oj = oi := Option.some.inj (hoj.symm.trans hoi)
          exact getD_set_true (hall e he hb)
        · rw [getD_set_ne false hji] at hl
          exact getD_set_true (hc j oj hoj hl e he hb)
      have hn' : (todo ops (listed.setIfInBounds i true)).length = m := by
        obtain ⟨l1, l2, h2, h3, _⟩ := todo_split hsz hiu
        rw [h3]
        rw [h2] at hn
        simp only [List.length_append, List.length_cons] at hn ⊢
        omega
      by_cases hf : fr i = true
      · obtain ⟨v, hv, h1, hg1⟩ := bring2_free hsel hL hoi hf p _ a w hS hg hil hr h
        refine hv.wpOp hoi hS ?_
        exact ih _ _ _ _ hsz' hc' hn' (.inr hS) (by rw [todo_set hsz]; exact hg1) h1
      · obtain ⟨h1, hg1, he⟩ := bring2_chained (by rw [hBe]) hsel hL rfl hoi (by simpa using hf) p _ a w hg hil hr h
        refine wpOp_exits (wpOp_mono (fun a' w' hk => ?_) h1)
        refine ih _ _ _ _ hsz' hc' hn' ?_ (by rw [todo_set hsz]; exact hg1) hk.2
        rcases hk.1 with hlast | hS'
        · left
          rw [todo_set hsz]
          apply List.filter_eq_nil_iff.2
          intro j hj
          simp only [bne_iff_ne, ne_eq, Decidable.not_not]
          refine Decidable.byContradiction fun hne => ?_
          have h5 := he hlast j (List.mem_range.1 (List.mem_filter.1 hj).1) hne
          rw [hr j hj] at h5
          cases h5
        · exact .inr hS'

def okPlan (ops : Array Oper) (free : List Bool) (p : Plan) : Bool :=
  Region.noSelect ops && (bitsOk ops (Region.before ops).toList && (looseOk2 ops (fun i => free.getD i false) (waits (Region.before ops).toList) && p.good ops.size (fun i => free.getD i false) (waits (Region.before ops).toList) true (List.range ops.size)))

/-- **A REGION THAT DRAWS ITS ORDER, BY A PLAN**. -/
theorem wp_region_plan {id : Nat} {a : Act} {w : World} {l : List Oper} (free : List Bool) (p : Plan) (S : World → Prop) (hm : P.follows .mixedOrders = true) (hok : okPlan l.toArray free p = true) (hS : S w.drew)
    (h : runs P l.toArray S Q p a w.drew) : (Code.region id l.toArray true).wp P Q a w := by
  refine wp_region_any hm ?_
  simp only [okPlan, Bool.and_eq_true] at hok
  obtain ⟨hsel, hB, hL, hg⟩ := hok
  have hsz : (Array.replicate l.toArray.size false).size = l.toArray.size := by simp
  have hall : todo l.toArray (Array.replicate l.toArray.size false) = List.range l.toArray.size := by
    unfold todo
    rw [List.filter_eq_self]
    intro i hi
    have : i < l.toArray.size := List.mem_range.1 hi
    simp only [Array.getD_eq_getD_getElem?, Bool.not_eq_true']
    rw [Array.getElem?_eq_getElem (by simpa using this)]
    simp
  exact any_of_plan (P := P) (Q := Q) (S := S) rfl hsel hB (loose2_of hL) l.toArray.size (Array.replicate l.toArray.size false) p a w.drew hsz (fun j oj hj hl => by
      have : (Array.replicate l.toArray.size false).getD j false = false := by
        simp only [Array.getD_eq_getD_getElem?, Array.getElem?_replicate]; split <;> rfl
      rw [this] at hl; cases hl) (by rw [hall]; simp) (.inr hS) (by rw [hall]; exact hg) h

/-- a free operation: in every world it yields the same. -/
theorem plan_free {o : Oper} {i : Nat} {p : Plan} {a : Act} {w : World} (hi : ops[i]? = some o) (hg : Region.wanted o (yielded ops a.tmps) = true)
    (h : ∀ K : Act → Prop, (∀ a', runs P ops S Q p a' w → K a') → ∃ v, (∀ w, (execOp a.eval o).run P w = .ok (.value v) w) ∧ K (a.put o.dst v)) : runs P ops S Q (.free i p) a w := by
  obtain ⟨v, hy, hk⟩ := h _ (fun _ h => h)
  simp only [runs, hi]
  exact ⟨v, .inl ⟨hg, fun w _ => hy w⟩, hk⟩
/-- a free operation whose value hangs on what S says. -/
theorem plan_held {o : Oper} {i : Nat} {p : Plan} {a : Act} {w : World} (v : Value) (hi : ops[i]? = some o) (hg : Region.wanted o (yielded ops a.tmps) = true) (hy : ∀ w, S w → (execOp a.eval o).run P w = .ok (.value v) w)
    (h : ∀ K : Act → Prop, (∀ a', runs P ops S Q p a' w → K a') → K (a.put o.dst v)) : runs P ops S Q (.free i p) a w := by
  simp only [runs, hi]
  exact ⟨v, .inl ⟨hg, hy⟩, h _ (fun _ h => h)⟩
/-- a free operation that is not wanted. -/
theorem plan_skip {o : Oper} {i : Nat} {p : Plan} {a : Act} {w : World} (hi : ops[i]? = some o) (hg : Region.wanted o (yielded ops a.tmps) = false) (h : runs P ops S Q p (a.put o.dst undef) w) : runs P ops S Q (.free i p) a w := by
  simp only [runs, hi]
  exact ⟨undef, .inr ⟨hg, rfl⟩, h⟩
/-- a chained operation. -/
theorem plan_one {o : Oper} {i : Nat} {p : Plan} {a : Act} {w : World} (hi : ops[i]? = some o) (hg : Region.wanted o (yielded ops a.tmps) = true) (h : ∀ K : Act → World → Prop, (∀ a' w', S w' ∧ runs P ops S Q p a' w' → K a' w') → o.wp P a w K NoWay) : runs P ops S Q (.one i p) a w := by
  simp only [runs]
  unfold wpOp
  simp only [hi]
  rw [if_pos hg]
  exact .inl (h _ (fun _ _ h => h))
/-- the last operation of all. -/
theorem plan_last {o : Oper} {i : Nat} {a : Act} {w : World} (hi : ops[i]? = some o) (hg : Region.wanted o (yielded ops a.tmps) = true) (h : ∀ K : Act → World → Prop, (∀ a' w', Q .normal a' w' → K a' w') → o.wp P a w K NoWay) : runs P ops S Q (.last i) a w := by
  simp only [runs]
  unfold wpOp
  simp only [hi]
  rw [if_pos hg]
  exact .inl (h _ (fun _ _ h => h))
/-- an append, its run told. -/
theorem plan_app {o : Oper} {i : Nat} {p : Plan} {a : Act} {w : World} (hi : ops[i]? = some o) (hg : Region.wanted o (yielded ops a.tmps) = true) (s x : Operand) (T T' : TypeId)
    (ho : o.op = .call { callee := .builtin .append, args := #[s, x], argTypes := #[T, T'] }) (R : Value → World → Prop)
    (hr : ∃ v' w', (Builtin.append_ #[T, T'] o.type #[a.eval s, a.eval x]).run P w = .ok v' w' ∧ R v' w') (h : ∀ v' w', R v' w' → S w' ∧ runs P ops S Q p (a.put o.dst v') w') : runs P ops S Q (.one i p) a w := by
  obtain ⟨v', w', hr, hR⟩ := hr
  refine plan_one hi hg fun K hK => ?_
  unfold Oper.wp execOp
  simp only [ho, resolve, invoke, builtin, Sem.run_bind, Sem.run_pure, Result.andThen_ok, List.map_toArray, List.map_cons, List.map_nil, hr]
  exact hK _ _ (h v' w' hR)
theorem plan_world {p : Plan} {a : Act} {w : World} (R : World → Prop) (h : R w) (k : ∀ w', R w' → runs P ops S Q p a w') : runs P ops S Q p a w := k w h
end
end Go.Proofs.Txt
