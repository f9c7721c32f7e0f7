/-
  Several states, the list of them, and the list of what each took: what stays of them. (No code is walked here.)
-/
import Derived.Test.YtjknjjcdgniodaaDoorTake
import Derived.Test.YtjknjjcdgniodaaDoorSum
import Derived.Test.YtjknjjcdgniodaaDoorMem5
namespace Go.Proofs.YtjknjjcdgniodaaDoor
open Go.RowKit Go.Proofs.Mem

def ptr (b : Nat) : Value := .pointer (some ⟨b, 0, none⟩)
structure States (w4 wr : World) (bs : List Nat) (xss yss : List (List Nat)) (lv tv : Value) (ts : List Value) : Prop where
  l1 : xss.length = bs.length
  l2 : yss.length = bs.length
  l3 : ts.length = bs.length
  nd : ∀ i j b : Nat, bs[i]? = some b → bs[j]? = some b → i = j
  st : ∀ (k b : Nat) (xs : List Nat), bs[k]? = some b → xss[k]? = some xs → StAt wr b (Sha.St.new.take xs)
  byt : ∀ xs ∈ xss, ∀ x ∈ xs, x < 256
  bB : ∀ b ∈ bs, w4.heap.size ≤ b ∧ b < wr.heap.size
  rl : Row wr 29 lv (bs.map ptr)
  rt : Row wr 22 tv ts
  ol : ∀ j, lv.ownBlock = some j → w4.heap.size ≤ j ∧ j ∉ bs ∧ tv.ownBlock ≠ some j
  ot : ∀ j, tv.ownBlock = some j → w4.heap.size ≤ j ∧ j ∉ bs
  tk : ∀ (k : Nat) (v : Value) (ys : List Nat), ts[k]? = some v → yss[k]? = some ys → Cells wr (fun j => j < wr.heap.size ∧ w4.heap.size ≤ j ∧ j ∉ bs ∧ lv.ownBlock ≠ some j ∧ tv.ownBlock ≠ some j) v (ints .u8 ys)
  kp : Keep (· < w4.heap.size) w4 wr

variable {w4 wr w' : World} {bs : List Nat} {xss yss : List (List Nat)} {lv tv : Value} {ts : List Value}
theorem States.keep (h : States w4 wr bs xss yss lv tv ts) (k : Keep (· < wr.heap.size) wr w') : States w4 w' bs xss yss lv tv ts where
  l1 := h.l1
  l2 := h.l2
  l3 := h.l3
  nd := h.nd
  st := fun i b xs hb hx => (k.block b (h.bB b (List.mem_of_getElem? hb)).2).trans (h.st i b xs hb hx)
  byt := h.byt
  bB := fun b hb => ⟨(h.bB b hb).1, Nat.lt_of_lt_of_le (h.bB b hb).2 k.size⟩
  rl := h.rl.keep k (fun _ hb => h.rl.lt hb)
  rt := h.rt.keep k (fun _ hb => h.rt.lt hb)
  ol := h.ol
  ot := h.ot
  tk := fun i v ys hv hy => ((h.tk i v ys hv hy).keep k (fun _ hj => hj.1)).mono (fun _ hj => ⟨Nat.lt_of_lt_of_le hj.1 k.size, hj.2⟩)
  kp := h.kp.trans (k.mono (fun _ hj => Nat.lt_of_lt_of_le hj h.kp.size))

/-- one state took more. -/
theorem States.take (h : States w4 wr bs xss yss lv tv ts) {i b : Nat} {xs ys : List Nat} (hb : bs[i]? = some b) (hx : xss[i]? = some xs) (hy : ∀ y ∈ ys, y < 256) (k : Keep (fun j => j < wr.heap.size ∧ j ≠ b) wr w') (hs : StAt w' b (Sha.St.new.take (xs ++ ys))) :
    States w4 w' bs (xss.set i (xs ++ ys)) yss lv tv ts := by
  have hm := List.mem_of_getElem? hb
  have hil : i < xss.length := (List.getElem?_eq_some_iff.1 hx).1
  refine ⟨by rw [List.length_set]; exact h.l1, h.l2, h.l3, h.nd, ?_, ?_, fun b' hb' => ⟨(h.bB b' hb').1, Nat.lt_of_lt_of_le (h.bB b' hb').2 k.size⟩, ?_, ?_, h.ol, h.ot, ?_, ?_⟩
  · intro i' b' xs' hb' hx'
    by_cases e : i = i'
    · subst e
      rw [List.getElem?_set_self hil] at hx'
      obtain rfl := Option.some.inj hx'
      obtain rfl : b = b' := Option.some.inj (hb.symm.trans hb')
      exact hs
    · rw [List.getElem?_set_ne e] at hx'
      exact (k.block b' ⟨(h.bB b' (List.mem_of_getElem? hb')).2, fun e' => e (h.nd i i' b hb (e' ▸ hb'))⟩).trans (h.st i' b' xs' hb' hx')
  · intro zs hz x hxz
    rcases List.mem_or_eq_of_mem_set hz with hz | rfl
    · exact h.byt zs hz x hxz
    · rcases List.mem_append.1 hxz with h1 | h1
      · exact h.byt xs (List.mem_of_getElem? hx) x h1
      · exact hy x h1
  · exact h.rl.keep k (fun j hj => ⟨h.rl.lt hj, fun e => (h.ol j hj).2.1 (e ▸ hm)⟩)
  · exact h.rt.keep k (fun j hj => ⟨h.rt.lt hj, fun e => (h.ot j hj).2 (e ▸ hm)⟩)
  · exact fun i' v ys' hv hy' => ((h.tk i' v ys' hv hy').keep k (fun j hj => ⟨hj.1, fun e => hj.2.2.1 (e ▸ hm)⟩)).mono (fun j hj => ⟨Nat.lt_of_lt_of_le hj.1 k.size, hj.2⟩)
  · exact h.kp.trans (k.mono (fun j hj => ⟨Nat.lt_of_lt_of_le hj h.kp.size, fun e => by have := (h.bB b hm).1; omega⟩))

/-- what one took is told anew. -/
theorem States.store {g n c : Nat} (h : States w4 wr bs xss yss lv (.slice (some ⟨g, 0, none⟩) n c) ts) {i : Nat} (hi : i < bs.length) {v : Value} {ys : List Nat}
    (hv : Cells wr (fun j => j < wr.heap.size ∧ w4.heap.size ≤ j ∧ j ∉ bs ∧ lv.ownBlock ≠ some j ∧ (Value.slice (some ⟨g, 0, none⟩) n c).ownBlock ≠ some j) v (ints .u8 ys)) :
    States w4 (wr.setCell ⟨g, i, none⟩ v) bs xss (yss.set i ys) lv (.slice (some ⟨g, 0, none⟩) n c) (ts.set i v) := by
  have k : Keep (fun j => j ≠ g) wr (wr.setCell ⟨g, i, none⟩ v) := (Keep.refl _ _).setCell _ (by simp)
  have hog : (Value.slice (some ⟨g, 0, none⟩) n c).ownBlock = some g := rfl
  have hg := h.ot g hog
  refine ⟨h.l1, by rw [List.length_set]; exact h.l2, by rw [List.length_set]; exact h.l3, h.nd, ?_, h.byt, fun b hb => ⟨(h.bB b hb).1, Nat.lt_of_lt_of_le (h.bB b hb).2 k.size⟩, ?_, ?_, h.ol, h.ot, ?_, ?_⟩
  · exact fun i' b xs hb hx => (k.block b (fun e => hg.2 (e ▸ List.mem_of_getElem? hb))).trans (h.st i' b xs hb hx)
  · exact h.rl.keep k (fun j hj e => (h.ol j hj).2.2 (e ▸ hog))
  · exact h.rt.set i (by rw [h.l3]; exact hi) v
  · intro i' v' ys' hv' hy'
    by_cases e : i = i'
    · subst e
      rw [List.getElem?_set_self (by rw [h.l3]; exact hi)] at hv'
      rw [List.getElem?_set_self (by rw [h.l2]; exact hi)] at hy'
      obtain rfl := Option.some.inj hv'
      obtain rfl := Option.some.inj hy'
      exact (hv.keep k (fun j hj e => hj.2.2.2.2 (e ▸ hog))).mono (fun j hj => ⟨Nat.lt_of_lt_of_le hj.1 k.size, hj.2⟩)
    · rw [List.getElem?_set_ne e] at hv' hy'
      exact ((h.tk i' v' ys' hv' hy').keep k (fun j hj e => hj.2.2.2.2 (e ▸ hog))).mono (fun j hj => ⟨Nat.lt_of_lt_of_le hj.1 k.size, hj.2⟩)
  · exact h.kp.trans (k.mono (fun j hj e => by have := hg.1; omega))

/-- a copy is put behind, with what it took. -/
theorem States.push (h : States w4 wr bs xss yss lv tv ts) {w1 w2 w3 : World} {lv' tv' v : Value} {i : Nat} {xs ys : List Nat} (hx : xss[i]? = some xs) (hy : yss[i]? = some ys) (hv : ts[i]? = some v)
    (k1 : Keep (· < wr.heap.size) wr w1) (z1 : wr.heap.size < w1.heap.size) (s1 : StAt w1 wr.heap.size (Sha.St.new.take xs))
    (k2 : Keep (fun j => j < w1.heap.size ∧ lv.ownBlock ≠ some j) w1 w2) (r2 : Row w2 29 lv' (bs.map ptr ++ [ptr wr.heap.size])) (o2 : ∀ j, lv'.ownBlock = some j → lv.ownBlock = some j ∨ w1.heap.size ≤ j)
    (k3 : Keep (fun j => j < w2.heap.size ∧ tv.ownBlock ≠ some j) w2 w3) (r3 : Row w3 22 tv' (ts ++ [v])) (o3 : ∀ j, tv'.ownBlock = some j → tv.ownBlock = some j ∨ w2.heap.size ≤ j) :
    States w4 w3 (bs ++ [wr.heap.size]) (xss ++ [xs]) (yss ++ [ys]) lv' tv' (ts ++ [v]) := by
  have hz2 := k2.size
  have hz3 := k3.size
  have hz4 := h.kp.size
  have ll : ∀ j, lv.ownBlock = some j → j < wr.heap.size := fun j hj => h.rl.lt hj
  have lt' : ∀ j, tv.ownBlock = some j → j < wr.heap.size := fun j hj => h.rt.lt hj
  have K : Keep (fun j => j < wr.heap.size ∧ lv.ownBlock ≠ some j ∧ tv.ownBlock ≠ some j) wr w3 :=
    (k1.mono (fun j hj => hj.1)).trans ((k2.mono (fun j hj => ⟨Nat.lt_trans hj.1 z1, hj.2.1⟩)).trans (k3.mono (fun j hj => ⟨by omega, hj.2.2⟩)))
  have hbs : ∀ b ∈ bs, lv.ownBlock ≠ some b ∧ tv.ownBlock ≠ some b := fun b hb => ⟨fun e => (h.ol b e).2.1 hb, fun e => (h.ot b e).2 hb⟩
  have hnc : wr.heap.size ∉ bs := fun hc => Nat.lt_irrefl _ (h.bB _ hc).2
  have hn3 : ∀ j, lv'.ownBlock = some j → tv'.ownBlock ≠ some j := by
    intro j hj e
    have h2 := r2.lt hj
    rcases o3 j e with h3 | h3
    · rcases o2 j hj with h4 | h4
      · exact (h.ol j h4).2.2 h3
      · have := lt' j h3; omega
    · omega
  have hnl : ∀ j, lv'.ownBlock = some j → j ∉ bs ++ [wr.heap.size] := by
    intro j hj hm
    rcases o2 j hj with h4 | h4
    · rcases List.mem_append.1 hm with h5 | h5
      · exact (h.ol j h4).2.1 h5
      · simp only [List.mem_singleton] at h5; have := ll j h4; omega
    · rcases List.mem_append.1 hm with h5 | h5
      · have := (h.bB j h5).2; omega
      · simp only [List.mem_singleton] at h5; omega
  have hnt : ∀ j, tv'.ownBlock = some j → j ∉ bs ++ [wr.heap.size] := by
    intro j hj hm
    rcases o3 j hj with h4 | h4
    · rcases List.mem_append.1 hm with h5 | h5
      · exact (h.ot j h4).2 h5
      · simp only [List.mem_singleton] at h5; have := lt' j h4; omega
    · rcases List.mem_append.1 hm with h5 | h5
      · have := (h.bB j h5).2; omega
      · simp only [List.mem_singleton] at h5; omega
  have cells : ∀ {v' : Value} {ys' : List Nat}, Cells wr (fun j => j < wr.heap.size ∧ w4.heap.size ≤ j ∧ j ∉ bs ∧ lv.ownBlock ≠ some j ∧ tv.ownBlock ≠ some j) v' (ints .u8 ys') →
      Cells w3 (fun j => j < w3.heap.size ∧ w4.heap.size ≤ j ∧ j ∉ bs ++ [wr.heap.size] ∧ lv'.ownBlock ≠ some j ∧ tv'.ownBlock ≠ some j) v' (ints .u8 ys') := by
    intro v' ys' hc
    refine (hc.keep K (fun j hj => ⟨hj.1, hj.2.2.2⟩)).mono (fun j hj => ⟨by omega, hj.2.1, ?_, ?_, ?_⟩)
    · intro hm
      rcases List.mem_append.1 hm with h5 | h5
      · exact hj.2.2.1 h5
      · simp only [List.mem_singleton] at h5; omega
    · intro e
      rcases o2 j e with h4 | h4
      · exact hj.2.2.2.1 h4
      · omega
    · intro e
      rcases o3 j e with h4 | h4
      · exact hj.2.2.2.2 h4
      · omega
  refine ⟨by simp [h.l1], by simp [h.l2], by simp [h.l3], ?_, ?_, ?_, ?_, ?_, r3, fun j hj => ⟨?_, hnl j hj, hn3 j hj⟩, fun j hj => ⟨?_, hnt j hj⟩, ?_, ?_⟩
  · intro i1 i2 b e1 e2
    rw [List.getElem?_append] at e1 e2
    split at e1 <;> split at e2
    · exact h.nd _ _ _ e1 e2
    · have h1 := List.mem_of_getElem? e1
      have h2 := List.mem_of_getElem? e2
      simp only [List.mem_singleton] at h2
      exact (hnc (h2 ▸ h1)).elim
    · have h1 := List.mem_of_getElem? e1
      have h2 := List.mem_of_getElem? e2
      simp only [List.mem_singleton] at h1
      exact (hnc (h1 ▸ h2)).elim
    · have h1 := (List.getElem?_eq_some_iff.1 e1).1
      have h2 := (List.getElem?_eq_some_iff.1 e2).1
      simp only [List.length_singleton] at h1 h2
      omega
  · intro i1 b xs' e1 e2
    rw [List.getElem?_append] at e1 e2
    rw [h.l1] at e2
    split at e1
    · rename_i hlt
      rw [if_pos hlt] at e2
      have hm := List.mem_of_getElem? e1
      exact (K.block b ⟨(h.bB b hm).2, (hbs b hm).1, (hbs b hm).2⟩).trans (h.st _ _ _ e1 e2)
    · rename_i hlt
      rw [if_neg hlt] at e2
      have h1 := List.mem_of_getElem? e1
      have h2 := List.mem_of_getElem? e2
      simp only [List.mem_singleton] at h1 h2
      subst h1 h2
      have n1 : lv.ownBlock ≠ some wr.heap.size := fun e => Nat.lt_irrefl _ (ll _ e)
      have n2 : tv.ownBlock ≠ some wr.heap.size := fun e => Nat.lt_irrefl _ (lt' _ e)
      exact (k3.block _ ⟨by omega, n2⟩).trans ((k2.block _ ⟨z1, n1⟩).trans s1)
  · intro zs hz
    rcases List.mem_append.1 hz with h5 | h5
    · exact h.byt zs h5
    · simp only [List.mem_singleton] at h5; subst h5; exact h.byt _ (List.mem_of_getElem? hx)
  · intro b hb
    rcases List.mem_append.1 hb with h5 | h5
    · exact ⟨(h.bB b h5).1, by have := (h.bB b h5).2; omega⟩
    · simp only [List.mem_singleton] at h5; omega
  · rw [List.map_append]
    exact r2.keep k3 (fun j hj => ⟨r2.lt hj, fun e => by
      rcases o2 j hj with h4 | h4
      · exact (h.ol j h4).2.2 e
      · have := lt' j e; omega⟩)
  · rcases o2 j hj with h4 | h4
    · exact (h.ol j h4).1
    · omega
  · rcases o3 j hj with h4 | h4
    · exact (h.ot j h4).1
    · omega
  · intro i1 v' ys' e1 e2
    rw [List.getElem?_append] at e1 e2
    rw [h.l2, ← h.l3] at e2
    split at e1
    · rename_i hlt
      rw [if_pos hlt] at e2
      exact cells (h.tk _ _ _ e1 e2)
    · rename_i hlt
      rw [if_neg hlt] at e2
      have h1 := List.mem_of_getElem? e1
      have h2 := List.mem_of_getElem? e2
      simp only [List.mem_singleton] at h1 h2
      subst h1 h2
      exact cells (h.tk i _ _ hv hy)
  · exact h.kp.trans (K.mono (fun j hj => ⟨by omega, fun e => by have := (h.ol j e).1; omega, fun e => by have := (h.ot j e).1; omega⟩))

/-- one state that took nothing. -/
theorem States.one {w5 : World} (k : Keep (· < w4.heap.size) w4 w5) (z : w5.heap.size = w4.heap.size + 1) (s : StAt w5 w4.heap.size Sha.St.new) :
    States w4 (((w5.alloc (.cells #[ptr w4.heap.size] 29)).alloc (.cells #[] 5)).alloc (.cells #[.slice (some ⟨w5.heap.size + 1, 0, none⟩) 0 0] 22)) [w4.heap.size] [[]] [[]]
      (.slice (some ⟨w5.heap.size, 0, none⟩) 1 1) (.slice (some ⟨w5.heap.size + 2, 0, none⟩) 1 1) [.slice (some ⟨w5.heap.size + 1, 0, none⟩) 0 0] := by
  have K : Keep (· < w5.heap.size) w5 (((w5.alloc (.cells #[ptr w4.heap.size] 29)).alloc (.cells #[] 5)).alloc (.cells #[.slice (some ⟨w5.heap.size + 1, 0, none⟩) 0 0] 22)) :=
    (((Keep.refl _ _).alloc _ (fun _ h => h)).alloc _ (fun j h => by simp; omega)).alloc _ (fun j h => by simp; omega)
  have h1 : (((w5.alloc (.cells #[ptr w4.heap.size] 29)).alloc (.cells #[] 5)).alloc (.cells #[.slice (some ⟨w5.heap.size + 1, 0, none⟩) 0 0] 22)).heap[w5.heap.size]? = some (.cells #[ptr w4.heap.size] 29 (0, 0)) := by
    have K2 : Keep (· < (w5.alloc (.cells #[ptr w4.heap.size] 29)).heap.size) (w5.alloc (.cells #[ptr w4.heap.size] 29)) (((w5.alloc (.cells #[ptr w4.heap.size] 29)).alloc (.cells #[] 5)).alloc (.cells #[.slice (some ⟨w5.heap.size + 1, 0, none⟩) 0 0] 22)) :=
      ((Keep.refl _ _).alloc _ (fun _ h => h)).alloc _ (fun j h => by simp at h ⊢; omega)
    exact (K2.block _ (by simp)).trans (heap_alloc_new w5 _)
  have h2 : (((w5.alloc (.cells #[ptr w4.heap.size] 29)).alloc (.cells #[] 5)).alloc (.cells #[.slice (some ⟨w5.heap.size + 1, 0, none⟩) 0 0] 22)).heap[w5.heap.size + 2]? = some (.cells #[.slice (some ⟨w5.heap.size + 1, 0, none⟩) 0 0] 22 (0, 0)) := by
    have := heap_alloc_new ((w5.alloc (.cells #[ptr w4.heap.size] 29)).alloc (.cells #[] 5)) (.cells #[.slice (some ⟨w5.heap.size + 1, 0, none⟩) 0 0] 22)
    simpa using this
  refine ⟨rfl, rfl, rfl, ?_, ?_, ?_, ?_, ?_, ?_, ?_, ?_, ?_, ?_⟩
  · intro i j b e1 e2
    have h1 := (List.getElem?_eq_some_iff.1 e1).1
    have h2 := (List.getElem?_eq_some_iff.1 e2).1
    simp only [List.length_singleton] at h1 h2
    omega
  · intro i b xs e1 e2
    have h1 := List.mem_of_getElem? e1
    have h2 := List.mem_of_getElem? e2
    simp only [List.mem_singleton] at h1 h2
    subst h1 h2
    exact (K.block _ (by omega)).trans s
  · intro xs hx x hxx
    simp only [List.mem_singleton] at hx
    subst hx
    simp at hxx
  · intro b hb
    simp only [List.mem_singleton] at hb
    subst hb
    exact ⟨Nat.le_refl _, by have := K.size; omega⟩
  · exact ⟨rfl, .inr ⟨_, 1, #[ptr w4.heap.size], rfl, Nat.zero_le _, h1, Nat.le_refl _, by decide, rfl, rfl⟩⟩
  · exact ⟨rfl, .inr ⟨_, 1, _, rfl, Nat.zero_le _, h2, Nat.le_refl _, by decide, rfl, rfl⟩⟩
  · intro j hj
    simp only [Value.ownBlock, Option.some.injEq] at hj
    subst hj
    exact ⟨by omega, by simp; omega, by simp [Value.ownBlock]⟩
  · intro j hj
    simp only [Value.ownBlock, Option.some.injEq] at hj
    subst hj
    exact ⟨by omega, by simp; omega⟩
  · intro i v ys e1 e2
    have h1 := List.mem_of_getElem? e1
    have h2 := List.mem_of_getElem? e2
    simp only [List.mem_singleton] at h1 h2
    subst h1 h2
    exact ⟨_, 0, 0, rfl, rfl, Nat.le_refl _, Nat.zero_le _, fun h0 => absurd h0 (Nat.lt_irrefl _)⟩
  · exact k.trans (K.mono (fun j hj => by omega))
end Go.Proofs.YtjknjjcdgniodaaDoor
