/-
  The watcher in the world, changed: a clock of a goroutine's own, of a mutex, of an atomic; a channel.
-/
import Derived.Test.YtalihehmbiohlaaDoorOrdR
import Derived.Test.YtalihehmbiohlaaDoorOrdQ
namespace Go.Proofs.YtalihehmbiohlaaDoor
open Go.RowKit Go.Maps Go.Proofs.Mem Go.Proofs.Txt Go.Proofs.Ord Go.Proofs.Mp

theorem ClkAt.form {w : World} {lab : Labs} {v : Value} {K : Nat → Nat} (h : ClkAt w lab v K) : ∃ a n c, v = .slice a n c := by
  obtain ⟨a, n, c, e, _⟩ := h
  exact ⟨a, n, c, e⟩
/-- a goroutine's clock is set. -/
theorem Watch.setOwn {B W : Nat} {rv : Value} {M1 M2 M3 n : Nat} {pb : Int → Nat} {w : World} {lab : Labs} {s : St} (h : Watch B W rv M1 M2 M3 n pb w lab s) (g : Nat) (hg : g < 8) (v : Value) (K : Nat → Nat) (hv : ClkAt w lab v K) :
    Watch B W rv M1 M2 M3 n pb (w.setCell ⟨W, 1 + g, none⟩ v) lab { s with own := upd s.own g K } ∧ Stay (fun l => l ≠ .wat) w lab (w.setCell ⟨W, 1 + g, none⟩ v) lab := by
  have hlw : lab W = .wat := by obtain ⟨_, _, _, h3, _⟩ := h.own; exact h3
  have st : Stay (fun l => l ≠ .wat) w lab (w.setCell ⟨W, 1 + g, none⟩ v) lab := ⟨(Keep.refl _ _).setCell v (fun hh => hh.2 hlw), fun _ _ => rfl⟩
  refine ⟨⟨h.old, Nat.le_trans h.size st.keep.size, ?_, h.mut_.stay st (by simp) (by simp), h.atm.stay st (by simp) (by simp), h.pipe.stay st (by simp) (by simp) (by simp) (by simp) (by simp) (by simp)⟩, st⟩
  obtain ⟨ov, g1, g2, g3, g4⟩ := h.own
  refine ⟨ov.set g v, by rw [List.length_set]; exact g1, ?_, g3, fun j x hx => ?_⟩
  · have := set_at g2 (1 + g) v
    rw [this]
    congr 3
    rw [List.append_assoc, List.set_append_right _ _ (by simp), List.set_append_left _ _ (by simp; omega), List.append_assoc]
    congr 2
    simp
  · have hst := st
    by_cases e : j = g
    · subst e
      rw [List.getElem?_set_self (by omega)] at hx
      cases hx
      have : upd s.own j K j = K := by unfold upd; rw [if_pos rfl]
      show ClkAt _ _ _ (upd s.own j K j)
      rw [this]
      exact hv.stay st (by simp)
    · rw [List.getElem?_set_ne (fun h => e h.symm)] at hx
      have : upd s.own g K j = s.own j := by unfold upd; rw [if_neg e]
      show ClkAt _ _ _ (upd s.own g K j)
      rw [this]
      exact (g4 j x hx).stay st (by simp)
/-- a map of clocks with one more. -/
theorem ClkMap.put {w w' : World} {lab lab' : Labs} {M n : Nat} {L : Lab} {f : Int → Nat → Nat} {t : Tab} {v : Value} {k : Int} {K : Nat → Nat} {S : Lab → Prop}
    (h : IMap Tryd.prog 3 w' M (mput t k v)) (hl : lab' M = L) (hn : t.length ≤ n) (hc : ∀ c, ClkAt w lab ((mget t c).getD (.slice none 0 0)) (f c)) (hv : ClkAt w lab v K) (st : Stay S w lab w' lab') (hS : S .clk) : ClkMap w' lab' M L (n + 1) (updI f k K) := by
  refine ⟨_, h, hl, Nat.le_trans (length_put_le _ _ _) (Nat.succ_le_succ hn), fun c => ?_⟩
  rw [mget_put]
  unfold updI
  by_cases e : c = k
  · subst e
    rw [if_pos rfl, if_pos rfl]
    exact hv.stay st hS
  · rw [if_neg (fun h => e h.symm), if_neg e]
    exact (hc c).stay st hS
theorem Stay.grown {w w' : World} {lab : Labs} {M : Nat} {L : Lab} (hl : lab M = L) (h : Keep (fun b => b < w.heap.size ∧ b ≠ M) w w') : Stay (fun l => l ≠ L) w lab w' lab :=
  ⟨h.mono fun b hb => ⟨hb.1, fun e => hb.2 (by rw [e]; exact hl)⟩, fun _ _ => rfl⟩
theorem Watch.more {B W : Nat} {rv : Value} {M1 M2 M3 n m : Nat} {pb : Int → Nat} {w : World} {lab : Labs} {s : St} (h : Watch B W rv M1 M2 M3 n pb w lab s) (hm : n ≤ m) : Watch B W rv M1 M2 M3 m pb w lab s :=
  ⟨h.old, h.size, h.own, h.mut_.more hm, h.atm.more hm, h.pipe.more hm⟩
/-- a channel is changed: what it holds now, and in which blocks. -/
theorem Watch.setPipe {B W : Nat} {rv : Value} {M1 M2 M3 n : Nat} {pb : Int → Nat} {w w' : World} {lab lab' : Labs} {s : St} {c : Int} {p : Pipe} (h : Watch B W rv M1 M2 M3 n pb w lab s) (hp : (s.pipe c).isSome = true)
    (st : Stay (fun l => l ≠ .pp c ∧ l ≠ .sent c ∧ l ≠ .got c ∧ l ≠ .frm c) w lab w' lab') (hq : PipeAt w' lab' c (pb c) p) : Watch B W rv M1 M2 M3 n pb w' lab' { s with pipe := updI s.pipe c (some p) } := by
  refine ⟨fun b hb => (st.lab b (Nat.lt_of_lt_of_le hb h.size)).trans (h.old b hb), Nat.le_trans h.size st.keep.size, h.own.stay st (by simp) (by simp), h.mut_.stay st (by simp) (by simp), h.atm.stay st (by simp) (by simp), ?_⟩
  obtain ⟨t, g1, g2, g3, g4⟩ := h.pipe
  refine ⟨t, g1.keep st.keep ⟨g1.lt, by rw [g2]; simp⟩, (st.lab M3 g1.lt).trans g2, g3, fun j => ?_⟩
  by_cases e : j = c
  · subst e
    refine .inr ⟨p, by simp [updI], ?_, hq⟩
    rcases g4 j with ⟨h1, _⟩ | ⟨_, _, h2, _⟩
    · rw [h1] at hp; cases hp
    · exact h2
  · rcases g4 j with ⟨h1, h2⟩ | ⟨q, h1, h2, h3⟩
    · exact .inl ⟨by simp [updI, e, h1], h2⟩
    · exact .inr ⟨q, by simp [updI, e, h1], h2, h3.stay st (by simp) (by simp [e]) (by simp [e]) (by simp [e]) (by simp [e])⟩
theorem Stay.drew (S : Lab → Prop) (w : World) (lab : Labs) : Stay S w lab w.drew lab := ⟨(Keep.refl _ _).drew, fun _ _ => rfl⟩
/-- what is new gets this label. -/
def newl (lab : Labs) (n : Nat) (l : Lab) : Labs := fun b => if n ≤ b then l else lab b
theorem Stay.news (S : Lab → Prop) {w w' : World} (lab : Labs) (l : Lab) (h : Keep (· < w.heap.size) w w') : Stay S w lab w' (newl lab w.heap.size l) :=
  ⟨h.mono fun _ hb => hb.1, fun _ hb => if_neg (by omega)⟩
theorem ints_zero (w : World) : (zeroValue 32).run Tryd.prog w = .ok (.slice none 0 0) w := by kernel_rfl
/-- two clocks joined: a clock in blocks of its own. -/
theorem join_clk (u v : Value) (K L : Nat → Nat) (w : World) (lab : Labs) (p q : Nat → Prop) (hu : Cells w p u (ints .i64 (short K))) (hv : Cells w q v (ints .i64 (short L))) :
    Calls Tryd.prog 37 #[u, v] w fun e w' => ∃ a n c lab', e = .returned (.slice a n c) ∧ ClkAt w' lab' (.slice a n c) (join K L) ∧ Stay (fun _ => True) w lab w' lab' ∧ Keep (· < w.heap.size) w w' := by
  refine (join_walk u v K L w p q hu hv).mono ?_
  rintro e w1 ⟨r, rfl, h1, h2⟩
  obtain ⟨a, n, c, rfl, _⟩ := id h1
  exact ⟨a, n, c, _, rfl, h1.lt.mono (fun b hb => ⟨hb.1, if_pos hb.2⟩), Stay.news _ lab .clk h2, h2⟩
section
variable (rooms : List Int) (s : St) (g obj at_ : Int)
theorem seen_lock : s.seen rooms ⟨g, 3, obj, at_⟩ = join (s.own g.toNat) (s.mut_ obj) := rfl
theorem seen_atom {k : Int} (h : k = 7 ∨ k = 8 ∨ k = 9) : s.seen rooms ⟨g, k, obj, at_⟩ = join (s.own g.toNat) (s.atm obj) := by
  rcases h with rfl | rfl | rfl <;> rfl
theorem seen_other {k : Int} (h : k ≠ 3 ∧ k ≠ 5 ∧ k ≠ 6 ∧ k ≠ 7 ∧ k ≠ 8 ∧ k ≠ 9) : s.seen rooms ⟨g, k, obj, at_⟩ = s.own g.toNat := by
  unfold St.seen
  simp [h]
theorem seen_send (h : 0 < roomOf rooms obj ∧ roomOf rooms obj ≤ (s.pp obj).sent.length ∧ (s.pp obj).sent.length - roomOf rooms obj < (s.pp obj).got.length) :
    s.seen rooms ⟨g, 5, obj, at_⟩ = join (s.own g.toNat) (nth (s.pp obj).got ((s.pp obj).sent.length - roomOf rooms obj)) := by
  unfold St.seen
  simp [h]
theorem seen_send0 (h : ¬ (0 < roomOf rooms obj ∧ roomOf rooms obj ≤ (s.pp obj).sent.length ∧ (s.pp obj).sent.length - roomOf rooms obj < (s.pp obj).got.length)) :
    s.seen rooms ⟨g, 5, obj, at_⟩ = s.own g.toNat := by
  unfold St.seen
  simp only [show ¬ (5 : Int) = 3 by decide, show ¬ ((5 : Int) = 7 ∨ (5 : Int) = 8 ∨ (5 : Int) = 9) by decide, if_false, if_true, if_neg h]
theorem seen_recv (h : (s.pp obj).got.length < (s.pp obj).sent.length) : s.seen rooms ⟨g, 6, obj, at_⟩ = join (s.own g.toNat) (nth (s.pp obj).sent (s.pp obj).got.length) := by
  unfold St.seen
  simp [h]
theorem seen_recv0 (h : ¬ (s.pp obj).got.length < (s.pp obj).sent.length) : s.seen rooms ⟨g, 6, obj, at_⟩ = s.own g.toNat := by
  unfold St.seen
  simp only [show ¬ (6 : Int) = 3 by decide, show ¬ (6 : Int) = 5 by decide, show ¬ ((6 : Int) = 7 ∨ (6 : Int) = 8 ∨ (6 : Int) = 9) by decide, if_false, if_true, if_neg h]
end
end Go.Proofs.YtalihehmbiohlaaDoor
