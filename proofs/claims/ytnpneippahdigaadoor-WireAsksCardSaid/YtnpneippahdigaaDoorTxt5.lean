/-
  A pool of operations of a region that stand in no order: each is shown once, from what is known of those that it looks at.
-/
import Derived.Test.YtnpneippahdigaaDoorTxt4
import Derived.Test.YtnpneippahdigaaDoorMem5
import Derived.Laws.Tables
namespace Go.Proofs.Txt
open Go Go.RowKit Go.Proofs.Mem

/-- the block that a slice or a pointer leads to. -/
def blk : Value → Option Nat
  | .slice (some a) _ _ => some a.block
  | .pointer (some a) => some a.block
  | _ => none
theorem own_blk {v : Value} {k : Nat} (h : v.ownBlock = some k) : blk v = some k := by
  unfold Value.ownBlock at h
  split at h
  · exact h
  · cases h

/-- what is known of an operation's value; 'own': it lies in a block of its own, made by the pool. -/
structure Fact (B : Nat) where
  own : Bool
  T : Value → World → Prop
  st : ∀ v w w' (q : Nat → Prop), T v w → Keep q w w' → (∀ b, b < B → q b) → (own = true → ∀ b, blk v = some b → q b) → T v w'
  lt : ∀ v w, T v w → own = true → ∀ b, blk v = some b → B ≤ b ∧ b < w.heap.size
def Fact.is (B : Nat) (v0 : Value) : Fact B := ⟨false, fun v _ => v = v0, fun _ _ _ _ h _ _ _ => h, fun _ _ _ h => by cases h⟩
/-- a row of its own. -/
def Fact.row (B : Nat) (E : TypeId) (cs : List Value) : Fact B :=
  ⟨true, fun v w => Row w E v cs ∧ ∀ k, v.ownBlock = some k → B ≤ k, fun v w w' q h k _ ho => ⟨h.1.keep k (fun b hb => ho rfl b (own_blk hb)), h.2⟩, fun v w h _ b hb => by
    obtain ⟨a, c, rfl⟩ := h.1.form
    cases a with
    | none => cases hb
    | some a => exact ⟨h.2 b hb, h.1.lt hb⟩⟩
/-- a block of its own that is known whole: the value leads to it. -/
def Fact.blockOf (B : Nat) (f : Nat → Value) (hf : ∀ b, blk (f b) = some b) (cs : List Value) (T : TypeId) : Fact B :=
  ⟨true, fun v w => ∃ b, v = f b ∧ B ≤ b ∧ w.heap[b]? = some (.cells cs.toArray T (0, 0)), fun v w w' q h k _ ho => by
    obtain ⟨b, rfl, h1, h2⟩ := h
    exact ⟨b, rfl, h1, (k.block b (ho rfl b (hf b))).trans h2⟩, fun v w h _ b hb => by
    obtain ⟨b', rfl, h1, h2⟩ := h
    rw [hf b'] at hb
    injection hb with hb
    subst hb
    exact ⟨h1, (Array.getElem?_eq_some_iff.1 h2).1⟩⟩

section
variable {P : Program} {ops : Array Oper} {S : World → Prop} {Q : Exit → Act → World → Prop} {ds : Nat → Nat}

def putAll (ds : Nat → Nat) (vs : Nat → Value) (l : List Nat) (a : Act) : Act := l.foldl (fun a j => a.put (some (ds j)) (vs j)) a
def AllL : List Nat → (Nat → Prop) → Prop
  | [], _ => True
  | [i], p => p i
  | i :: j :: l, p => p i ∧ AllL (j :: l) p
theorem AllL.at_ {l : List Nat} {p : Nat → Prop} (h : AllL l p) : ∀ i ∈ l, p i := by
  induction l with
  | nil => intro i hi; cases hi
  | cons x l ih =>
    intro i hi
    cases l with
    | nil => rw [List.mem_singleton.1 hi]; exact h
    | cons y l =>
      rcases List.mem_cons.1 hi with rfl | hi
      · exact h.1
      · exact ih h.2 i hi
theorem AllL.of {l : List Nat} {p : Nat → Prop} (h : ∀ i ∈ l, p i) : AllL l p := by
  induction l with
  | nil => exact trivial
  | cons x l ih =>
    cases l with
    | nil => exact h x (by simp)
    | cons y l => exact ⟨h x (by simp), ih (fun i hi => h i (List.mem_cons_of_mem _ hi))⟩

theorem putAll_put (vs : Nat → Value) (d : Nat) (v : Value) (l : List Nat) : ∀ a : Act, (∀ j ∈ l, ds j ≠ d) → putAll ds vs l (a.put (some d) v) = (putAll ds vs l a).put (some d) v := by
  induction l with
  | nil => intro a _; rfl
  | cons x l ih =>
    intro a h
    have hx := h x (by simp)
    show putAll ds vs l ((a.put (some d) v).put (some (ds x)) (vs x)) = (putAll ds vs l (a.put (some (ds x)) (vs x))).put (some d) v
    rw [Act.put_comm a v (vs x) (fun e he he' => hx (by injection he with he; injection he' with he'; omega)), ih _ (fun j hj => h j (by simp [hj]))]
theorem putAll_congr {vs vs' : Nat → Value} {l : List Nat} (h : ∀ j ∈ l, vs j = vs' j) : ∀ a : Act, putAll ds vs l a = putAll ds vs' l a := by
  induction l with
  | nil => intro a; rfl
  | cons x l ih =>
    intro a
    show putAll ds vs l (a.put _ (vs x)) = putAll ds vs' l (a.put _ (vs' x))
    rw [h x (by simp), ih (fun j hj => h j (by simp [hj]))]
theorem putAll_size (vs : Nat → Value) (l : List Nat) : ∀ a : Act, (putAll ds vs l a).tmps.size = a.tmps.size := by
  induction l with
  | nil => intro a; rfl
  | cons x l ih =>
    intro a
    show (putAll ds vs l (a.put _ (vs x))).tmps.size = _
    rw [ih]
    simp [Act.put]
theorem putAll_insert {vs vs' : Nat → Value} {i : Nat} {v : Value} {D : Nat → Bool} (hD : D i = false) (hv : vs' i = v) (hvs : ∀ j, j ≠ i → vs' j = vs j) (r : List Nat) : ∀ a : Act, i ∈ r → r.Nodup → (∀ j ∈ r, j ≠ i → ds j ≠ ds i) →
    putAll ds vs' (r.filter (fun j => D j || j == i)) a = (putAll ds vs (r.filter D) a).put (some (ds i)) v := by
  induction r with
  | nil => intro a h; cases h
  | cons x r ih =>
    intro a hi hn hd
    obtain ⟨hx, hn⟩ := List.nodup_cons.1 hn
    by_cases e : x = i
    · subst e
      have h1 : (x :: r).filter (fun j => D j || j == x) = x :: r.filter D := by
        rw [List.filter_cons, if_pos (by simp)]
        congr 1
        apply List.filter_congr
        intro k hk
        have : k ≠ x := fun h => hx (h ▸ hk)
        simp [this]
      have h2 : (x :: r).filter D = r.filter D := by rw [List.filter_cons, if_neg (by simp [hD])]
      rw [h1, h2]
      show putAll ds vs' (r.filter D) (a.put _ (vs' x)) = _
      rw [hv, putAll_put _ _ _ _ _ (fun j hj => hd j (by simp [(List.mem_filter.1 hj).1]) (fun h => hx (h ▸ (List.mem_filter.1 hj).1)))]
      congr 1
      exact putAll_congr (fun j hj => hvs j (fun h => hx (h ▸ (List.mem_filter.1 hj).1))) a
    · have hi' : i ∈ r := (List.mem_cons.1 hi).resolve_left (fun h => e h.symm)
      have hb : (D x || x == i) = D x := by simp [e]
      rw [List.filter_cons, List.filter_cons, hb]
      split
      · show putAll ds vs' _ (a.put _ (vs' x)) = (putAll ds vs _ (a.put _ (vs x))).put _ v
        rw [hvs x e]
        exact ih _ hi' hn (fun j hj => hd j (by simp [hj]))
      · exact ih _ hi' hn (fun j hj => hd j (by simp [hj]))
theorem exec_putAll {o : Oper} (hs : ∀ cs b, o.op ≠ .select cs b) {p : Nat → Bool} (vs : Nat → Value) (l : List Nat) : ∀ a : Act, l.Pairwise (fun i j => ds j ≠ ds i) → (∀ j ∈ l, p j = false → ds j ∉ o.looksAt ops) →
    execOp (putAll ds vs l a).eval o = execOp (putAll ds vs (l.filter p) a).eval o ∧ Region.wanted o (yielded ops (putAll ds vs l a).tmps) = Region.wanted o (yielded ops (putAll ds vs (l.filter p) a).tmps) := by
  induction l with
  | nil => intro a _ _; exact ⟨rfl, rfl⟩
  | cons x l ih =>
    intro a hp h
    obtain ⟨hx, hp⟩ := List.pairwise_cons.1 hp
    have := ih (a.put (some (ds x)) (vs x)) hp (fun j hj => h j (by simp [hj]))
    rw [List.filter_cons]
    cases hpx : p x with
    | true => rw [if_pos rfl]; exact this
    | false =>
      rw [if_neg (by simp)]
      have hx' := h x (by simp) hpx
      have e := putAll_put vs (ds x) (vs x) (l.filter p) a (fun j hj => hx j (List.mem_filter.1 hj).1)
      refine ⟨this.1.trans ?_, this.2.trans ?_⟩
      · rw [e]; exact execOp_put o hs _ _ _ (fun d hd => by injection hd with hd; subst hd; exact hx')
      · rw [e]; exact wanted_put o _ _ _ (fun d hd => by injection hd with hd; subst hd; exact hx')

theorem put_get (a : Act) (d : Nat) (v : Value) (h : d < a.tmps.size) : (a.put (some d) v).tmps.getD d undef = v := by
  simp [Act.put, Array.getD_eq_getD_getElem?, h]
theorem wpOp_move {i : Nat} {o : Oper} (hi : ops[i]? = some o) {d : Nat} (hd : o.dst = some d) {a a' : Act} (he : execOp a.eval o = execOp a'.eval o) (hw : Region.wanted o (yielded ops a.tmps) = Region.wanted o (yielded ops a'.tmps)) (hs : d < a'.tmps.size) {w : World} {G : Value → World → Prop}
    (h : wpOp P ops NoWay i (fun x w' => x.defers = a'.defers ∧ G (x.tmps.getD d undef) w') a' w) : wpOp P ops NoWay i (fun x w' => ∃ v, x = a.put o.dst v ∧ G v w') a w := by
  have hg : ∀ (v : Value) (w' : World), G ((a'.put o.dst v).tmps.getD d undef) w' → G v w' := by
    intro v w' h
    rwa [hd, put_get a' d v hs] at h
  unfold wpOp at *
  simp only [hi] at *
  rw [hw]
  split
  · rename_i hw'
    simp only [hw', if_true] at h
    rcases h with h | ⟨_, _, _, hq⟩
    case inr => exact hq.elim
    refine .inl ?_
    unfold Oper.wp at *
    rw [he]
    generalize (execOp a'.eval o).run P w = r at *
    cases r with
    | ok n w' =>
      cases n <;> simp only [Oper.upon] at h ⊢
      case value u => exact ⟨u, rfl, hg _ _ h.2⟩
      case skip => exact ⟨undef, rfl, hg _ _ h.2⟩
      case defer dd =>
        exfalso
        have h1 : dd :: a'.defers = a'.defers := by have := h.1; rw [hd] at this; exact this
        have := congrArg List.length h1
        simp at this
      case enter f args =>
        refine h.mono fun e w'' hk => ?_
        cases e with
        | returned u => exact ⟨u, rfl, hg _ _ hk.2⟩
        | panicked c => exact hk
        | outgrown => exact hk
      case row row args => exact Rows.mono h fun u w'' hk => ⟨u, rfl, hg _ _ hk.2⟩
    | halt x w' => cases x <;> simp only [Oper.upon] at h ⊢; all_goals exact h.elim
  · rename_i hw'
    simp only [hw'] at h
    exact ⟨undef, rfl, hg _ _ h.2⟩

/-- what an operation of the pool leaves. -/
def Good {B : Nat} (F : Fact B) (cons : List Nat) (vs : Nat → Value) (v : Value) (w w' : World) : Prop :=
  F.T v w' ∧ Keep (fun b => b < w.heap.size ∧ ∀ c ∈ cons, blk (vs c) ≠ some b) w w' ∧ (F.own = true → ∀ b, blk v = some b → w.heap.size ≤ b ∨ ∃ c ∈ cons, blk (vs c) = some b)

def okPool (ops : Array Oper) (ds : Nat → Nat) (r own : List Nat) (cons pre : Nat → List Nat) (N : Nat) : Bool :=
  Region.noSelect ops && (decide r.Nodup && (r.all fun i => match ops[i]? with
    | none => false
    | some o => match o.dst with
      | none => false
      | some d => (ds i == d) && (decide (d < N) && ((r.all fun j => j == i || (ds j != d && ((pre i).contains j || !(o.looksAt ops).contains (ds j)))) &&
        (((pre i).all fun k => r.contains k && (waits (Region.before ops).toList i k && r.all fun c => c == i || (!(cons c).contains k || waits (Region.before ops).toList c i))) &&
          (cons i).all fun c => (pre i).contains c && own.contains c)))))

theorem plan_pool {a1 : Act} {w1 : World} (N : Nat) (ds : Nat → Nat) (r own : List Nat) (F : Nat → Fact w1.heap.size) (cons pre : Nat → List Nat) {p : Plan}
    (hok : okPool ops ds r own cons pre N = true) (hown' : AllL r fun i => (F i).own = own.contains i) (hN : a1.tmps.size = N) (hS : ∀ w, Keep (· < w1.heap.size) w1 w → S w)
    (hob : AllL r fun i => ∀ (vs : Nat → Value) (w : World), Keep (· < w1.heap.size) w1 w → AllL (pre i) (fun d => (F d).T (vs d) w) → ∀ K : Act → World → Prop, (∀ v w', Good (F i) (cons i) vs v w w' → K ((putAll ds vs (r.filter fun j => (pre i).contains j) a1).put (some (ds i)) v) w') →
      wpOp P ops NoWay i K (putAll ds vs (r.filter fun j => (pre i).contains j) a1) w)
    (hend : ∀ (vs : Nat → Value) (w : World), Keep (· < w1.heap.size) w1 w → AllL (r.filter fun j => r.all fun c => !(cons c).contains j) (fun d => (F d).T (vs d) w) →
      (∀ j ∈ r, ∀ k ∈ r, j ≠ k → (r.all fun c => !(cons c).contains j) = true → (r.all fun c => !(cons c).contains k) = true → own.contains j = true → own.contains k = true → ∀ b, blk (vs j) = some b → blk (vs k) ≠ some b) →
      runs P ops S Q p (putAll ds vs r a1) w) : runs P ops S Q (.pool r p) a1 w1 := by
  simp only [okPool, Bool.and_eq_true, decide_eq_true_eq, List.all_eq_true] at hok
  obtain ⟨hsel, hnd, hall⟩ := hok
  have hown := hown'.at_
  have hone : ∀ i ∈ r, ∃ o, ops[i]? = some o ∧ o.dst = some (ds i) ∧ ds i < N ∧ (∀ j ∈ r, j ≠ i → ds j ≠ ds i ∧ ((pre i).contains j = false → ds j ∉ o.looksAt ops)) ∧
      (∀ k ∈ pre i, k ∈ r ∧ waits (Region.before ops).toList i k = true ∧ ∀ c ∈ r, c ≠ i → k ∈ cons c → waits (Region.before ops).toList c i = true) ∧ ∀ c ∈ cons i, c ∈ pre i ∧ own.contains c = true := by
    intro i hi
    have h := hall i hi
    cases ho : ops[i]? with
    | none => simp [ho] at h
    | some o =>
      cases hdd : o.dst with
      | none => simp [ho, hdd] at h
      | some d =>
        simp only [ho, hdd, Bool.and_eq_true, decide_eq_true_eq, List.all_eq_true, Bool.or_eq_true, beq_iff_eq, bne_iff_ne, Bool.not_eq_true', List.contains_iff_mem] at h
        obtain ⟨hd, h1, h2, h3, h4⟩ := h
        refine ⟨o, rfl, by rw [hd]; exact hdd, by rw [hd]; exact h1, fun j hj hne => ?_, fun k hk => ?_, fun c hc => ?_⟩
        · have := (h2 j hj).resolve_left hne
          refine ⟨by rw [hd]; exact this.1, fun hn => ?_⟩
          rcases this.2 with h5 | h5
          · exact absurd h5 (by simpa using hn)
          · simpa using h5
        · have := h3 k hk
          refine ⟨this.1, this.2.1, fun c hc hne hkc => ?_⟩
          rcases (this.2.2 c hc).resolve_left hne with h5 | h5
          · exact absurd hkc (by simpa using h5)
          · exact h5
        · have := h4 c hc
          exact ⟨this.1, by simpa using this.2⟩
  have hpw : ∀ D : Nat → Bool, (r.filter D).Pairwise (fun i j => ds j ≠ ds i) := by
    intro D
    apply List.Pairwise.filter
    refine List.Pairwise.imp_of_mem ?_ hnd
    intro i j hi hj hne
    obtain ⟨o, _, _, _, h, _⟩ := hone i hi
    exact (h j hj (fun e => hne e.symm)).1
  refine ⟨fun l a w => (∀ j ∈ l, j ∈ r) ∧ ∃ vs, a = putAll ds vs (r.filter fun j => !l.contains j) a1 ∧ Keep (· < w1.heap.size) w1 w ∧
      (∀ j ∈ r, j ∉ l → (∀ c ∈ r, j ∈ cons c → c ∈ l) → (F j).T (vs j) w) ∧
      (∀ j ∈ r, ∀ k ∈ r, j ≠ k → j ∉ l → k ∉ l → (∀ c ∈ r, j ∈ cons c → c ∈ l) → (∀ c ∈ r, k ∈ cons c → c ∈ l) → own.contains j = true → own.contains k = true → ∀ b, blk (vs j) = some b → blk (vs k) ≠ some b) ∧
      ∀ k ∈ r, k ∉ l → ∀ j ∈ l, waits (Region.before ops).toList k j = false, ?_, ?_, ?_⟩
  · refine ⟨fun _ h => h, fun _ => undef, ?_, Keep.refl _ _, fun j hj h => absurd hj h, fun j hj _ _ _ h => absurd hj h, fun k hk h => absurd hk h⟩
    have : (r.filter fun j => !r.contains j) = [] := by
      apply List.filter_eq_nil_iff.2
      intro x hx
      simp [hx]
    rw [this]
    rfl
  · rintro l i a w hil hr ⟨hlr, vs, rfl, hk, hT, hdis, hdc⟩
    have hir := hlr i hil
    obtain ⟨o, ho, hod, hdn, hlook, hpre, hcons⟩ := hone i hir
    have hs : ∀ cs b, o.op ≠ .select cs b := fun cs b => Region.noSelect_spec hsel i o cs b ho
    have hpl : ∀ d ∈ pre i, d ∉ l ∧ ∀ c ∈ r, d ∈ cons c → c ∈ l := by
      intro d hd
      obtain ⟨h1, h2, h3⟩ := hpre d hd
      refine ⟨fun h => (by rw [hr d h] at h2; cases h2), fun c hc hdc' => ?_⟩
      by_cases e : c = i
      · rw [e]; exact hil
      · refine Decidable.byContradiction fun hcl => ?_
        have := hdc c hc hcl i hil
        rw [h3 c hc e hdc'] at this
        cases this
    have hTp : ∀ d ∈ pre i, (F d).T (vs d) w := fun d hd => hT d (hpre d hd).1 (hpl d hd).1 (hpl d hd).2
    have hcb : ∀ c ∈ cons i, ∀ b, blk (vs c) = some b → w1.heap.size ≤ b := fun c hc b hb =>
      ((F c).lt (vs c) w (hTp c (hcons c hc).1) ((hown c (hpre c (hcons c hc).1).1).trans (hcons c hc).2) b hb).1
    have hexec := exec_putAll (o := o) hs (p := fun j => (pre i).contains j) vs (r.filter fun j => !l.contains j) a1 (hpw _) (fun j hj hp => by
      obtain ⟨hj1, hj2⟩ := List.mem_filter.1 hj
      have hne : j ≠ i := fun e => by subst e; simp [hil] at hj2
      exact (hlook j hj1 hne).2 hp)
    have hfil : ((r.filter fun j => !l.contains j).filter fun j => (pre i).contains j) = r.filter fun j => (pre i).contains j := by
      rw [List.filter_filter]
      apply List.filter_congr
      intro x hx
      cases hpx : (pre i).contains x with
      | false => simp
      | true =>
        have := (hpl x (by simpa using hpx)).1
        simp [this]
    rw [hfil] at hexec
    have h1 := hob.at_ i hir vs w hk (AllL.of hTp) (fun x w' => x.defers = (putAll ds vs (r.filter fun j => (pre i).contains j) a1).defers ∧ Good (F i) (cons i) vs (x.tmps.getD (ds i) undef) w w') (fun v w' hg => by
      refine ⟨rfl, ?_⟩
      rw [put_get _ _ _ (by rw [putAll_size, hN]; exact hdn)]
      exact hg)
    have h2 := wpOp_move (G := fun v w' => Good (F i) (cons i) vs v w w') ho hod hexec.1 hexec.2 (by rw [putAll_size, hN]; exact hdn) h1
    refine wpOp_mono (fun x w' hx => ?_) h2
    obtain ⟨v, rfl, g1, g2, g3⟩ := hx
    rw [hod]
    have hwB : w1.heap.size ≤ w.heap.size := hk.size
    have hqB : ∀ b, b < w1.heap.size → b < w.heap.size ∧ ∀ c ∈ cons i, blk (vs c) ≠ some b := fun b hb => ⟨by omega, fun c hc h => by have := hcb c hc b h; omega⟩
    have hk' : Keep (· < w1.heap.size) w1 w' := hk.trans (g2.mono hqB)
    have hmem : ∀ x, x ∈ l.filter (· != i) ↔ x ∈ l ∧ x ≠ i := fun x => by simp [List.mem_filter]
    have hli : ∀ j, (∀ c ∈ r, j ∈ cons c → c ∈ l.filter (· != i)) → (∀ c ∈ r, j ∈ cons c → c ∈ l) ∧ j ∉ cons i := fun j hj =>
      ⟨fun c hc hjc => ((hmem c).1 (hj c hc hjc)).1, fun hji => ((hmem i).1 (hj i hir hji)).2 rfl⟩
    have hcdis : ∀ j ∈ r, j ∉ l → (∀ c ∈ r, j ∈ cons c → c ∈ l) → j ∉ cons i → own.contains j = true → ∀ b, blk (vs j) = some b → ∀ c ∈ cons i, blk (vs c) ≠ some b := by
      intro j hj hjl hlive hji hjo b hb c hc
      have hcp := (hcons c hc).1
      exact hdis j hj c (hpre c hcp).1 (fun e => hji (e ▸ hc)) hjl (hpl c hcp).1 hlive (hpl c hcp).2 hjo (hcons c hc).2 b hb
    refine ⟨hS _ hk', fun j hj => hlr j ((hmem j).1 hj).1, fun k => if k = i then v else vs k, ?_, hk', ?_, ?_, ?_⟩
    · have := putAll_insert (vs := vs) (vs' := fun k => if k = i then v else vs k) (i := i) (v := v) (D := fun j => !l.contains j) (by simp [hil]) (by simp) (fun j hj => by simp [hj]) r a1 hir hnd (fun j hj hne => (hlook j hj hne).1)
      rw [← this]
      congr 1
      apply List.filter_congr
      intro x _
      by_cases hx : x = i
      · subst hx; simp
      · simp [List.mem_filter, hx]
    · intro j hj hjl hlive
      by_cases e : j = i
      · subst e; simp only [if_true]; exact g1
      · simp only [e, if_false]
        have hjl' : j ∉ l := fun h => hjl ((hmem j).2 ⟨h, e⟩)
        obtain ⟨hl1, hl2⟩ := hli j hlive
        have ht := hT j hj hjl' hl1
        exact (F j).st _ _ _ _ ht g2 hqB (fun ho b hb => ⟨((F j).lt _ _ ht ho b hb).2, hcdis j hj hjl' hl1 hl2 ((hown j hj).symm.trans ho) b hb⟩)
    · intro j hj k hkr hne hjl hkl hlj hlk hoj hok b hb hb'
      have hnew : ∀ k ∈ r, k ≠ i → k ∉ l.filter (· != i) → (∀ c ∈ r, k ∈ cons c → c ∈ l.filter (· != i)) → own.contains k = true → own.contains i = true → blk v = some b → blk (vs k) = some b → False := by
        intro k hkr hki hkl hlk hok hoi hv hvk
        have hkl' : k ∉ l := fun h => hkl ((hmem k).2 ⟨h, hki⟩)
        obtain ⟨hl1, hl2⟩ := hli k hlk
        have ht := hT k hkr hkl' hl1
        rcases g3 ((hown i hir).trans hoi) b hv with h | ⟨c, hc, h⟩
        · have := ((F k).lt _ _ ht ((hown k hkr).trans hok) b hvk).2
          omega
        · exact hcdis k hkr hkl' hl1 hl2 hok b hvk c hc h
      by_cases ej : j = i
      · subst ej
        have hki : k ≠ j := fun h => hne h.symm
        simp only [if_true] at hb
        simp only [hki, if_false] at hb'
        exact hnew k hkr hki hkl hlk hok hoj hb hb'
      · by_cases ek : k = i
        · subst ek
          simp only [if_true] at hb'
          simp only [ej, if_false] at hb
          exact hnew j hj ej hjl hlj hoj hok hb' hb
        · simp only [ej, if_false] at hb
          simp only [ek, if_false] at hb'
          exact hdis j hj k hkr hne (fun h => hjl ((hmem j).2 ⟨h, ej⟩)) (fun h => hkl ((hmem k).2 ⟨h, ek⟩)) (hli j hlj).1 (hli k hlk).1 hoj hok b hb hb'
    · intro k hkr hkl j hj
      obtain ⟨hj1, hj2⟩ := (hmem j).1 hj
      by_cases e : k = i
      · subst e; exact hr j hj1
      · exact hdc k hkr (fun h => hkl ((hmem k).2 ⟨h, e⟩)) j hj1
  · rintro a w ⟨_, vs, rfl, hk, hT, hdis, _⟩
    have e : (r.filter fun j => !([] : List Nat).contains j) = r := by
      apply List.filter_eq_self.2
      intro x _
      simp
    rw [e]
    have hlive : ∀ j, (r.all fun c => !(cons c).contains j) = true → ∀ c ∈ r, j ∈ cons c → c ∈ ([] : List Nat) := by
      intro j hj c hc hjc
      have := List.all_eq_true.1 hj c hc
      simp [hjc] at this
    refine hend vs w hk (AllL.of fun d hd => ?_) (fun j hj k hkr hne h1 h2 => hdis j hj k hkr hne (by simp) (by simp) (hlive j h1) (hlive k h2))
    obtain ⟨hd1, hd2⟩ := List.mem_filter.1 hd
    exact hT d hd1 (by simp) (hlive d hd2)

/-- a row made whole. -/
theorem row_of_block {w : World} {b : Nat} {E : TypeId} {cs : List Value} (h : w.heap[b]? = some (.cells cs.toArray E (0, 0))) (hl : cs.length ≤ maxLen) : Row w E (.slice (some ⟨b, 0, none⟩) cs.length cs.length) cs :=
  ⟨(Nat.mul_one _).symm, .inr ⟨b, cs.length, cs.toArray, rfl, Nat.zero_le _, h, Nat.le_refl _, hl, by simp, by simp⟩⟩
theorem pool_row {B : Nat} {E : TypeId} {cs : List Value} {cons : List Nat} {vs : Nat → Value} {v : Value} {w w' : World} (r : Row w' E v cs) (k : Keep (· < w.heap.size) w w') (ho : ∀ b, v.ownBlock = some b → w.heap.size ≤ b) (hB : B ≤ w.heap.size) : Good (Fact.row B E cs) cons vs v w w' := by
  refine ⟨⟨r, fun b hb => Nat.le_trans hB (ho b hb)⟩, k.mono (fun b h => h.1), fun _ b hb => .inl ?_⟩
  obtain ⟨a, c, rfl⟩ := r.form
  cases a with
  | none => cases hb
  | some a => exact ho b hb
/-- a row made whole in a new block. -/
theorem pool_block {B : Nat} {E : TypeId} {cs : List Value} {cons : List Nat} {vs : Nat → Value} {w w' : World} (h : w'.heap[w.heap.size]? = some (.cells cs.toArray E (0, 0))) (hl : cs.length ≤ maxLen) (k : Keep (· < w.heap.size) w w') (hB : B ≤ w.heap.size) : Good (Fact.row B E cs) cons vs (.slice (some ⟨w.heap.size, 0, none⟩) cs.length cs.length) w w' :=
  pool_row (row_of_block h hl) k (fun b hb => by have : w.heap.size = b := Option.some.inj hb; omega) hB
theorem pool_is {B : Nat} {v : Value} {cons : List Nat} {vs : Nat → Value} {w w' : World} (k : Keep (· < w.heap.size) w w') : Good (Fact.is B v) cons vs v w w' := ⟨rfl, k.mono (fun b h => h.1), fun h => by cases h⟩
/-- a row that has grown. -/
theorem pool_grown {B : Nat} {E : TypeId} {cs cs' : List Value} {c : Nat} {vs : Nat → Value} {v : Value} {w w' : World} (hc : (Fact.row B E cs).T (vs c) w) (r : Row w' E v cs') (k : Keep (fun k => k < w.heap.size ∧ (vs c).ownBlock ≠ some k) w w') (o : ∀ k, v.ownBlock = some k → (vs c).ownBlock = some k ∨ w.heap.size ≤ k) (hB : B ≤ w.heap.size) : Good (Fact.row B E cs') [c] vs v w w' := by
  refine ⟨⟨r, fun b hb => ?_⟩, k.mono (fun b h => ⟨h.1, fun h' => h.2 c (by simp) (own_blk h')⟩), fun _ b hb => ?_⟩
  · rcases o b hb with h | h
    · exact hc.2 b h
    · exact Nat.le_trans hB h
  · have hb' : v.ownBlock = some b := by
      obtain ⟨a, c, rfl⟩ := r.form
      cases a with
      | none => cases hb
      | some a => exact hb
    rcases o b hb' with h | h
    · exact .inr ⟨c, by simp, own_blk h⟩
    · exact .inl h
/-- an operation of the pool, to be walked. -/
theorem pool_op {i : Nat} {o : Oper} {a : Act} {w : World} {K : Act → World → Prop} (hi : ops[i]? = some o) (hg : Region.wanted o (yielded ops a.tmps) = true) (h : o.wp P a w K NoWay) : wpOp P ops NoWay i K a w := by
  unfold wpOp
  simp only [hi]
  rw [if_pos hg]
  exact .inl h
/-- an append of the pool, its run told. -/
theorem pool_app {i : Nat} {o : Oper} {a : Act} {w : World} {K : Act → World → Prop} (hi : ops[i]? = some o) (hg : Region.wanted o (yielded ops a.tmps) = true) (s x : Operand) (T T' : TypeId)
    (ho : o.op = .call { callee := .builtin .append, args := #[s, x], argTypes := #[T, T'] }) (R : Value → World → Prop)
    (hr : ∃ v' w', (Builtin.append_ #[T, T'] o.type #[a.eval s, a.eval x]).run P w = .ok v' w' ∧ R v' w') (h : ∀ v' w', R v' w' → K (a.put o.dst v') w') : wpOp P ops NoWay i K a w := by
  obtain ⟨v', w', hr, hR⟩ := hr
  refine pool_op hi hg ?_
  unfold Oper.wp execOp
  simp only [ho, resolve, invoke, builtin, Sem.run_bind, Sem.run_pure, Result.andThen_ok, List.map_toArray, List.map_cons, List.map_nil, hr]
  exact h _ _ hR
/-- a struct stored whole, in a chained operation. -/
theorem plan_store_row {o : Oper} {i : Nat} {p : Plan} {a : Act} {w : World} (hi : ops[i]? = some o) (hg : Region.wanted o (yielded ops a.tmps) = true) (ty : TypeId) (x y : Operand) (ho : o.op = .store ty x y)
    (g : Nat) (cells : Array Value) (hx : a.eval x = .pointer (some ⟨g, 0, none⟩)) (hy : a.eval y = .agg cells) (t : TypeId) (old : Array Value) (hc : w.heap[g]? = some (.cells old t (0, 0))) (hs : (P.info? ty).map (·.size) = some cells.size)
    (hold : old.size = cells.size) (h1 : cells.all (·.oneCell') = true) (h : S (w.setRow g cells) ∧ runs P ops S Q p (a.put o.dst undef) (w.setRow g cells)) : runs P ops S Q (.one i p) a w :=
  plan_one hi hg (fun _ hK => wp_store_row ty x y ho g cells hx hy t old hc hs hold h1 (hK _ _ h))
end
end Go.Proofs.Txt
