/-
  A channel in the world, opened; two rows that grow side by side.
-/
import Derived.Test.YtalihehmbiohlaaDoorOrdU
namespace Go.Proofs.YtalihehmbiohlaaDoor
open Go.RowKit Go.Maps Go.Proofs.Mem Go.Proofs.Txt Go.Proofs.Ord Go.Proofs.Mp

theorem clk_info : ∃ i0, Tryd.prog.info? 32 = some i0 ∧ i0.zero = some (.slice none 0 0) ∧ i0.size = 1 ∧ i0.bytes = 24 := by
  obtain ⟨i0, h1, h2, h3, h4⟩ := info_parts (show (Tryd.prog.info? 32).map (fun i => (i.zero, i.size, i.bytes)) = some (some (.slice none 0 0), 1, 24) by kernel_rfl)
  exact ⟨i0, h1, h2, h3, h4⟩
/-- two rows of their own, grown since w0. -/
structure Gr2 (w0 : World) (T1 T2 : TypeId) (sv fv : Value) (wx : World) (sv' fv' : Value) (vs fs : List Value) : Prop where
  r1 : Row wx T1 sv' vs
  r2 : Row wx T2 fv' fs
  o1 : ∀ k, sv'.ownBlock = some k → sv.ownBlock = some k ∨ w0.heap.size ≤ k
  o2 : ∀ k, fv'.ownBlock = some k → fv.ownBlock = some k ∨ w0.heap.size ≤ k
  ne : ∀ k, sv'.ownBlock = some k → fv'.ownBlock ≠ some k
  keep : Keep (fun b => b < w0.heap.size ∧ sv.ownBlock ≠ some b ∧ fv.ownBlock ≠ some b) w0 wx
section
variable {w0 wx wy : World} {T1 T2 : TypeId} {sv fv sv' fv' v' : Value} {vs fs : List Value} {x : Value}
theorem Gr2.start (h1 : Row w0 T1 sv vs) (h2 : Row w0 T2 fv fs) (hn : ∀ k, sv.ownBlock = some k → fv.ownBlock ≠ some k) : Gr2 w0 T1 T2 sv fv w0 sv fv vs fs :=
  ⟨h1, h2, fun _ h => .inl h, fun _ h => .inl h, hn, Keep.refl _ _⟩
theorem Gr2.swap (h : Gr2 w0 T1 T2 sv fv wx sv' fv' vs fs) : Gr2 w0 T2 T1 fv sv wx fv' sv' fs vs :=
  ⟨h.r2, h.r1, h.o2, h.o1, fun k e e' => h.ne k e' e, h.keep.mono fun _ hb => ⟨hb.1, hb.2.2, hb.2.1⟩⟩
theorem Gr2.next (h : Gr2 w0 T1 T2 sv fv wx sv' fv' vs fs) (k : Keep (· < wx.heap.size) wx wy) : Gr2 w0 T1 T2 sv fv wy sv' fv' vs fs :=
  ⟨h.r1.keep k (fun b hb => h.r1.lt hb), h.r2.keep k (fun b hb => h.r2.lt hb), h.o1, h.o2, h.ne, h.keep.trans (k.mono fun _ hb => Nat.lt_of_lt_of_le hb.1 h.keep.size)⟩
theorem Gr2.app (h : Gr2 w0 T1 T2 sv fv wx sv' fv' vs fs) (r : Row wy T1 v' (vs ++ [x])) (k : Keep (fun b => b < wx.heap.size ∧ sv'.ownBlock ≠ some b) wx wy) (o : ∀ b, v'.ownBlock = some b → sv'.ownBlock = some b ∨ wx.heap.size ≤ b) :
    Gr2 w0 T1 T2 sv fv wy v' fv' (vs ++ [x]) fs := by
  have hs := h.keep.size
  refine ⟨r, h.r2.keep k (fun b hb => ⟨h.r2.lt hb, fun e => h.ne b e hb⟩), fun b hb => ?_, h.o2, fun b hb e => ?_, h.keep.trans (k.mono fun b hb => ⟨Nat.lt_of_lt_of_le hb.1 hs, fun e => ?_⟩)⟩
  · rcases o b hb with e | e
    · exact h.o1 b e
    · exact .inr (Nat.le_trans hs e)
  · rcases o b hb with e' | e'
    · exact h.ne b e' e
    · have := h.r2.lt e; omega
  · rcases h.o1 b e with e' | e'
    · exact hb.2.1 e'
    · have := hb.1; omega
end
theorem OwnAt.unfrozen {w : World} {lab : Labs} {W M1 M2 M3 : Nat} {rv : Value} {own : Nat → Nat → Nat} (h : OwnAt w lab W rv M1 M2 M3 own) (i : Nat) : w.frozen? ⟨W, i, none⟩ = false := by
  obtain ⟨ov, _, h2, _⟩ := h
  exact frozen_at h2 i
/-- a channel, opened. -/
theorem PipeAt.open_ {w : World} {lab : Labs} {c : Int} {b : Nat} {p : Pipe} (h : PipeAt w lab c b p) : ∃ sa sc ga gc fa fc,
    w.heap[b]? = some (.cells #[.slice sa p.sent.length sc, .slice ga p.got.length gc, .slice fa p.frm.length fc] 86 (0, 0)) ∧ lab b = .pp c ∧ ClkRow w lab (.sent c) (.slice sa p.sent.length sc) p.sent ∧ ClkRow w lab (.got c) (.slice ga p.got.length gc) p.got ∧
    Row w 3 (.slice fa p.frm.length fc) (ints .i64 p.frm) ∧ (∀ k, (Value.slice fa p.frm.length fc).ownBlock = some k → lab k = .frm c) ∧ (∀ g ∈ p.frm, g < 8) := by
  obtain ⟨sv, gv, fv, g1, g2, g3, g4, g5, g6, g7⟩ := h
  obtain ⟨vs, h1, h2, h3, h4⟩ := id g3
  obtain ⟨us, k1, k2, k3, k4⟩ := id g4
  obtain ⟨sa, sc, rfl⟩ := h1.form
  obtain ⟨ga, gc, rfl⟩ := k1.form
  obtain ⟨fa, fc, rfl⟩ := g5.form
  rw [h3] at g1 g3
  rw [k3] at g1 g4
  rw [ints_length] at g1 g5 g6
  exact ⟨sa, sc, ga, gc, fa, fc, g1, g2, g3, g4, g5, g6, g7⟩
/-- one of a row of clocks. -/
theorem ClkRow.at_ {w : World} {lab : Labs} {L : Lab} {a : Option Addr} {n c : Nat} {l : List (Nat → Nat)} (h : ClkRow w lab L (.slice a n c) l) (k : Nat) (hk : k < l.length) :
    ∃ g xa xn xc, a = some ⟨g, 0, none⟩ ∧ n ≤ c ∧ c ≤ 9223372036854775807 ∧ w.cell? ⟨g, k, none⟩ = some (.slice xa xn xc) ∧ ClkAt w lab (.slice xa xn xc) (nth l k) := by
  obtain ⟨vs, h1, h2, h3, h4⟩ := h
  obtain ⟨g, c', e, h5, h6, _, h7, _⟩ := h1.blk (by omega)
  injection e with e1 e2 e3
  have hx : vs[k]? = some vs[k] := List.getElem?_eq_getElem (by omega)
  have hK : l[k]? = some l[k] := List.getElem?_eq_getElem hk
  have hc := h4 k _ _ hx hK
  obtain ⟨xa, xn, xc, ex⟩ := hc.form
  refine ⟨g, xa, xn, xc, e1, by rw [e2, e3]; exact h5, by rw [e3]; exact h6, by rw [h7 k (by omega), hx, ex], ?_⟩
  have : nth l k = l[k] := by unfold nth; rw [List.getD_eq_getElem?_getD, hK]; rfl
  rw [this, ← ex]
  exact hc
/-- a row of clocks with one more. -/
theorem ClkRow.more {w w' : World} {lab lab' : Labs} {S : Lab → Prop} {L : Lab} {v : Value} {l : List (Nat → Nat)} {vs : List Value} {x : Value} {K : Nat → Nat} (h1 : vs.length = l.length) (h2 : ∀ (i : Nat) (x : Value) (K : Nat → Nat), vs[i]? = some x → l[i]? = some K → ClkAt w lab x K)
    (hx : ClkAt w lab x K) (st : Stay S w lab w' lab') (hS : S .clk) (r : Row w' 32 v (vs ++ [x])) (ho : ∀ k, v.ownBlock = some k → lab' k = L) : ClkRow w' lab' L v (l ++ [K]) := by
  refine ⟨_, r, ho, by simp [h1], fun i y J hy hJ => ?_⟩
  by_cases hi : i < vs.length
  · rw [List.getElem?_append_left hi] at hy
    rw [List.getElem?_append_left (by omega)] at hJ
    exact (h2 i y J hy hJ).stay st hS
  · rw [List.getElem?_append_right (by omega)] at hy
    rw [List.getElem?_append_right (by omega)] at hJ
    rw [h1] at hy
    cases hz : i - l.length with
    | zero =>
      rw [hz] at hy hJ
      cases hy; cases hJ
      exact hx.stay st hS
    | succ m => rw [hz] at hy; simp at hy
/-- what a row's block is labelled. -/
def newb (lab : Labs) (n : Nat) (v : Value) (L : Lab) : Labs := fun b => if n ≤ b ∧ v.ownBlock = some b then L else lab b
theorem ownBlock_some {v : Value} {k : Nat} (h : v.ownBlock = some k) (lab : Labs) (n : Nat) (L : Lab) (hn : n ≤ k ∨ lab k = L) : newb lab n v L k = L := by
  unfold newb
  by_cases hk : n ≤ k
  · rw [if_pos ⟨hk, h⟩]
  · rw [if_neg (fun e => hk e.1)]
    exact hn.resolve_left hk
theorem cells3_set (a b c x : Value) : ([a, b, c] : List Value).set 0 x = [x, b, c] ∧ ([a, b, c] : List Value).set 1 x = [a, x, c] ∧ ([a, b, c] : List Value).set 2 x = [a, b, x] := ⟨rfl, rfl, rfl⟩
theorem newb_old {lab : Labs} {n : Nat} {v : Value} {L : Lab} {b : Nat} (h : b < n) : newb lab n v L b = lab b := if_neg (fun e => by omega)
/-- a send, in the world. -/
theorem pipe_sent {w wx : World} {lab : Labs} {b : Nat} {c : Int} {p : Pipe} {sv gv fv sv' fv' x : Value} {vs : List Value} {K : Nat → Nat} {g : Nat}
    (hb : w.heap[b]? = some (.cells #[sv, gv, fv] 86 (0, 0))) (hl : lab b = .pp c) (rG : ClkRow w lab (.got c) gv p.got) (oS : ∀ k, sv.ownBlock = some k → lab k = .sent c) (oF : ∀ k, fv.ownBlock = some k → lab k = .frm c) (bF : ∀ k, fv.ownBlock = some k → k < w.heap.size)
    (hv : vs.length = p.sent.length) (he : ∀ (i : Nat) (y : Value) (J : Nat → Nat), vs[i]? = some y → p.sent[i]? = some J → ClkAt w lab y J) (lF : ∀ g ∈ p.frm, g < 8) (hg : g < 8) (hx : ClkAt w lab x K)
    (G : Gr2 w 32 3 sv fv wx sv' fv' (vs ++ [x]) (ints .i64 p.frm ++ [.int .i64 (g : Int)])) :
    ∃ lab', Stay (fun l => l ≠ .pp c ∧ l ≠ .sent c ∧ l ≠ .got c ∧ l ≠ .frm c) w lab ((wx.setCell ⟨b, 0, none⟩ sv').setCell ⟨b, 2, none⟩ fv') lab' ∧ PipeAt ((wx.setCell ⟨b, 0, none⟩ sv').setCell ⟨b, 2, none⟩ fv') lab' c b ⟨p.sent ++ [K], p.got, p.frm ++ [g]⟩ := by
  have hbw : b < w.heap.size := (Array.getElem?_eq_some_iff.1 hb).1
  have nbs : ∀ k, sv'.ownBlock = some k → k ≠ b := fun k hk e => by
    subst e
    rcases G.o1 k hk with h | h
    · have := oS k h; rw [hl] at this; cases this
    · omega
  have nbf : ∀ k, fv'.ownBlock = some k → k ≠ b := fun k hk e => by
    subst e
    rcases G.o2 k hk with h | h
    · have := oF k h; rw [hl] at this; cases this
    · omega
  have hbx : wx.heap[b]? = some (.cells ([sv, gv, fv] : List Value).toArray 86 (0, 0)) := (G.keep.block b ⟨hbw, fun e => (by have := oS b e; rw [hl] at this; cases this), fun e => (by have := oF b e; rw [hl] at this; cases this)⟩).trans hb
  have kk : Keep (fun k => k ≠ b) wx ((wx.setCell ⟨b, 0, none⟩ sv').setCell ⟨b, 2, none⟩ fv') := ((Keep.refl _ _).setCell _ (by simp)).setCell _ (by simp)
  have hby : ((wx.setCell ⟨b, 0, none⟩ sv').setCell ⟨b, 2, none⟩ fv').heap[b]? = some (.cells ([sv', gv, fv'] : List Value).toArray 86 (0, 0)) := set_at (set_at hbx 0 sv') 2 fv'
  refine ⟨newb (newb lab w.heap.size sv' (.sent c)) w.heap.size fv' (.frm c), ?_, ?_⟩
  · refine ⟨(G.keep.mono fun k hk => ⟨hk.1, fun e => hk.2.2.1 (oS k e), fun e => hk.2.2.2.2 (oF k e)⟩).trans (kk.mono fun k hk e => hk.2.1 (by rw [e]; exact hl)), fun k hk => ?_⟩
    rw [newb_old hk, newb_old hk]
  · have lb : ∀ S : Lab → Prop, (∀ l, S l → l ≠ .pp c ∧ l ≠ .sent c ∧ l ≠ .frm c) → Stay S w lab ((wx.setCell ⟨b, 0, none⟩ sv').setCell ⟨b, 2, none⟩ fv') (newb (newb lab w.heap.size sv' (.sent c)) w.heap.size fv' (.frm c)) := fun S hS =>
      ⟨(G.keep.mono fun k hk => ⟨hk.1, fun e => (hS _ hk.2).2.1 (oS k e), fun e => (hS _ hk.2).2.2 (oF k e)⟩).trans (kk.mono fun k hk e => (hS _ hk.2).1 (by rw [e]; exact hl)), fun k hk => by rw [newb_old hk, newb_old hk]⟩
    have r1 := G.r1.keep kk nbs
    have r2 := G.r2.keep kk nbf
    have st := lb (fun l => l = .clk ∨ l = .got c) (fun l h => by rcases h with rfl | rfl <;> simp)
    refine ⟨sv', gv, fv', hby, by rw [newb_old hbw, newb_old hbw]; exact hl, ClkRow.more hv he hx st (.inl rfl) r1 (fun k hk => ?_), rG.stay st (.inl rfl) (.inr rfl), ?_, fun k hk => ?_, fun j hj => ?_⟩
    · have h1 : newb lab w.heap.size sv' (.sent c) k = .sent c := ownBlock_some hk lab _ _ (by
        rcases G.o1 k hk with h | h
        · exact .inr (oS k h)
        · exact .inl h)
      show newb _ _ fv' _ k = _
      unfold newb at h1 ⊢
      rw [if_neg (fun e => G.ne k hk e.2)]
      exact h1
    · rw [show ints .i64 (p.frm ++ [g]) = ints .i64 p.frm ++ [.int .i64 (g : Int)] by simp [ints]]
      exact r2
    · rcases G.o2 k hk with h | h
      · have hkw : k < w.heap.size := bF k h
        rw [newb_old hkw, newb_old hkw]
        exact oF k h
      · exact if_pos ⟨h, hk⟩
    · rcases List.mem_append.1 hj with h | h
      · exact lF j h
      · rw [List.mem_singleton.1 h]; exact hg
/-- a receipt, in the world. -/
theorem pipe_got {w wx : World} {lab : Labs} {b : Nat} {c : Int} {p : Pipe} {sv gv fv gv' x : Value} {vs : List Value} {K : Nat → Nat}
    (hb : w.heap[b]? = some (.cells #[sv, gv, fv] 86 (0, 0))) (hl : lab b = .pp c) (rS : ClkRow w lab (.sent c) sv p.sent) (oG : ∀ k, gv.ownBlock = some k → lab k = .got c) (rF : Row w 3 fv (ints .i64 p.frm)) (oF : ∀ k, fv.ownBlock = some k → lab k = .frm c)
    (hv : vs.length = p.got.length) (he : ∀ (i : Nat) (y : Value) (J : Nat → Nat), vs[i]? = some y → p.got[i]? = some J → ClkAt w lab y J) (lF : ∀ g ∈ p.frm, g < 8) (hx : ClkAt w lab x K)
    (r : Row wx 32 gv' (vs ++ [x])) (k : Keep (fun b => b < w.heap.size ∧ gv.ownBlock ≠ some b) w wx) (o : ∀ b, gv'.ownBlock = some b → gv.ownBlock = some b ∨ w.heap.size ≤ b) :
    ∃ lab', Stay (fun l => l ≠ .pp c ∧ l ≠ .sent c ∧ l ≠ .got c ∧ l ≠ .frm c) w lab (wx.setCell ⟨b, 1, none⟩ gv') lab' ∧ PipeAt (wx.setCell ⟨b, 1, none⟩ gv') lab' c b ⟨p.sent, p.got ++ [K], p.frm⟩ := by
  have hbw : b < w.heap.size := (Array.getElem?_eq_some_iff.1 hb).1
  have nbs : ∀ k, gv'.ownBlock = some k → k ≠ b := fun k hk e => by
    subst e
    rcases o k hk with h | h
    · have := oG k h; rw [hl] at this; cases this
    · omega
  have hbx : wx.heap[b]? = some (.cells ([sv, gv, fv] : List Value).toArray 86 (0, 0)) := (k.block b ⟨hbw, fun e => by have := oG b e; rw [hl] at this; cases this⟩).trans hb
  have kk : Keep (fun k => k ≠ b) wx (wx.setCell ⟨b, 1, none⟩ gv') := (Keep.refl _ _).setCell _ (by simp)
  have hby : (wx.setCell ⟨b, 1, none⟩ gv').heap[b]? = some (.cells ([sv, gv', fv] : List Value).toArray 86 (0, 0)) := set_at hbx 1 gv'
  have lb : ∀ S : Lab → Prop, (∀ l, S l → l ≠ .pp c ∧ l ≠ .got c) → Stay S w lab (wx.setCell ⟨b, 1, none⟩ gv') (newb lab w.heap.size gv' (.got c)) := fun S hS =>
    ⟨(k.mono fun j hj => ⟨hj.1, fun e => (hS _ hj.2).2 (oG j e)⟩).trans (kk.mono fun j hj e => (hS _ hj.2).1 (by rw [e]; exact hl)), fun j hj => newb_old hj⟩
  refine ⟨newb lab w.heap.size gv' (.got c), lb _ (fun l hl => ⟨hl.1, hl.2.2.1⟩), ?_⟩
  have st := lb (fun l => l = .clk ∨ l = .sent c ∨ l = .frm c) (fun l h => by rcases h with rfl | rfl | rfl <;> simp)
  refine ⟨sv, gv', fv, hby, by rw [newb_old hbw]; exact hl, rS.stay st (.inl rfl) (.inr (.inl rfl)), ClkRow.more hv he hx st (.inl rfl) (r.keep kk nbs) (fun j hj => ownBlock_some hj lab _ _ (by
      rcases o j hj with h | h
      · exact .inr (oG j h)
      · exact .inl h)), rF.keep st.keep (fun j hj => ⟨rF.lt hj, .inr (.inr (oF j hj))⟩), fun j hj => (newb_old (rF.lt hj)).trans (oF j hj), lF⟩
theorem Stay.at_map {w w' : World} {lab : Labs} {M : Nat} {L : Lab} (hl : lab M = L) (h : w.grownBy w' (some M)) : Stay (fun l => l ≠ L) w lab w' lab :=
  Stay.grown hl ((Keep.refl (fun k => k < w.heap.size ∧ k ≠ M) w).grown h (fun k hk => ⟨hk.1, fun e => hk.2 (by injection e)⟩))
theorem Watch.putMut {B W : Nat} {rv : Value} {M1 M2 M3 n : Nat} {pb : Int → Nat} {w w' : World} {lab : Labs} {s : St} {t : Tab} {c : Int} {v : Value} {K : Nat → Nat} (h : Watch B W rv M1 M2 M3 n pb w lab s)
    (hl : lab M1 = .mu) (hn : t.length ≤ n) (hc : ∀ c, ClkAt w lab ((mget t c).getD (.slice none 0 0)) (s.mut_ c)) (hv : ClkAt w lab v K) (k : IMap Tryd.prog 3 w' M1 (mput t c v)) (g : w.grownBy w' (some M1)) :
    Watch B W rv M1 M2 M3 (n + 1) pb w' lab { s with mut_ := updI s.mut_ c K } ∧ Stay (fun l => l ≠ .mu) w lab w' lab := by
  have st := Stay.at_map hl g
  exact ⟨⟨h.old, Nat.le_trans h.size st.keep.size, h.own.stay st (by simp) (by simp), ClkMap.put k hl hn hc hv st (by simp), (h.atm.stay st (by simp) (by simp)).more (Nat.le_succ n), (h.pipe.stay st (by simp) (by simp) (by simp) (by simp) (by simp) (by simp)).more (Nat.le_succ n)⟩, st⟩
theorem Watch.putAtm {B W : Nat} {rv : Value} {M1 M2 M3 n : Nat} {pb : Int → Nat} {w w' : World} {lab : Labs} {s : St} {t : Tab} {c : Int} {v : Value} {K : Nat → Nat} (h : Watch B W rv M1 M2 M3 n pb w lab s)
    (hl : lab M2 = .at_) (hn : t.length ≤ n) (hc : ∀ c, ClkAt w lab ((mget t c).getD (.slice none 0 0)) (s.atm c)) (hv : ClkAt w lab v K) (k : IMap Tryd.prog 3 w' M2 (mput t c v)) (g : w.grownBy w' (some M2)) :
    Watch B W rv M1 M2 M3 (n + 1) pb w' lab { s with atm := updI s.atm c K } ∧ Stay (fun l => l ≠ .at_) w lab w' lab := by
  have st := Stay.at_map hl g
  exact ⟨⟨h.old, Nat.le_trans h.size st.keep.size, h.own.stay st (by simp) (by simp), (h.mut_.stay st (by simp) (by simp)).more (Nat.le_succ n), ClkMap.put k hl hn hc hv st (by simp), (h.pipe.stay st (by simp) (by simp) (by simp) (by simp) (by simp) (by simp)).more (Nat.le_succ n)⟩, st⟩
section
variable (rooms : List Int) (s : St) (g obj at_ : Int)
theorem step_unlock : s.step rooms ⟨g, 4, obj, at_⟩ = { s with own := upd s.own g.toNat (s.clock rooms ⟨g, 4, obj, at_⟩), mut_ := updI s.mut_ obj (join (s.mut_ obj) (s.clock rooms ⟨g, 4, obj, at_⟩)) } := rfl
theorem step_atom {k : Int} (h : k = 7 ∨ k = 8 ∨ k = 9) : s.step rooms ⟨g, k, obj, at_⟩ = { s with own := upd s.own g.toNat (s.clock rooms ⟨g, k, obj, at_⟩), atm := updI s.atm obj (s.clock rooms ⟨g, k, obj, at_⟩) } := by
  rcases h with rfl | rfl | rfl <;> rfl
theorem step_go : s.step rooms ⟨g, 10, obj, at_⟩ = { s with own := upd (upd s.own g.toNat (s.clock rooms ⟨g, 10, obj, at_⟩)) obj.toNat (join (upd s.own g.toNat (s.clock rooms ⟨g, 10, obj, at_⟩) obj.toNat) (s.clock rooms ⟨g, 10, obj, at_⟩)) } := rfl
theorem step_send : s.step rooms ⟨g, 5, obj, at_⟩ = { s with own := upd s.own g.toNat (s.clock rooms ⟨g, 5, obj, at_⟩), pipe := updI s.pipe obj (some ⟨(s.pp obj).sent ++ [s.clock rooms ⟨g, 5, obj, at_⟩], (s.pp obj).got, (s.pp obj).frm ++ [g.toNat]⟩) } := rfl
theorem step_recv : s.step rooms ⟨g, 6, obj, at_⟩ = { s with
    own := if roomOf rooms obj = 0 ∧ (s.pp obj).got.length < (s.pp obj).frm.length then upd (upd s.own g.toNat (s.clock rooms ⟨g, 6, obj, at_⟩)) ((s.pp obj).frm.getD (s.pp obj).got.length 0) (join (upd s.own g.toNat (s.clock rooms ⟨g, 6, obj, at_⟩) ((s.pp obj).frm.getD (s.pp obj).got.length 0)) (s.clock rooms ⟨g, 6, obj, at_⟩)) else upd s.own g.toNat (s.clock rooms ⟨g, 6, obj, at_⟩)
    pipe := updI s.pipe obj (some ⟨(s.pp obj).sent, (s.pp obj).got ++ [s.clock rooms ⟨g, 6, obj, at_⟩], (s.pp obj).frm⟩) } := rfl
theorem step_other {k : Int} (h : k ≠ 4 ∧ k ≠ 5 ∧ k ≠ 6 ∧ k ≠ 7 ∧ k ≠ 8 ∧ k ≠ 9 ∧ k ≠ 10) : s.step rooms ⟨g, k, obj, at_⟩ = { s with own := upd s.own g.toNat (s.clock rooms ⟨g, k, obj, at_⟩) } := by
  unfold St.step
  simp [h]
end
theorem updI_updI {α : Type} (f : Int → α) (k : Int) (a b : α) : updI (updI f k a) k b = updI f k b := by
  funext j
  unfold updI
  split <;> rfl
/-- append of a clock onto a row of clocks, with the row that holds it. -/
theorem clk_append_one (w : World) (ty : TypeId) (v x : Value) (vs : List Value) (h1 : x.oneCell' = true) (hown : Row w 32 v vs) (hl : vs.length ≤ 100000) :
    ∃ v' w', (Builtin.append_ #[34, 34] ty #[v, .slice (some ⟨w.heap.size, 0, none⟩) 1 1]).run Tryd.prog (w.alloc (.cells #[x] 32)) = .ok v' w' ∧
      (Row w' 32 v' (vs ++ [x]) ∧ Keep (fun k => k < w.heap.size ∧ v.ownBlock ≠ some k) w w' ∧ ∀ k, v'.ownBlock = some k → v.ownBlock = some k ∨ w.heap.size ≤ k) := by
  obtain ⟨i0, hi0, hz0, hs0, hb0⟩ := clk_info
  exact append_at_one (P := Tryd.prog) 34 32 i0 (.slice none 0 0) 24 Tryd.underlying34 hi0 hz0 hs0 hb0 rfl w ty v x _ hown h1 (by omega) (by omega)
/-- append of a clock in a world that has grown since. -/
theorem clk_append_at (w : World) (ty : TypeId) (v x u : Value) (vs : List Value) {p : Nat → Prop} (h1 : x.oneCell' = true) (hown : Row w 32 v vs) (hu : Cells w p u [x]) (hl : vs.length ≤ 100000) :
    ∃ v' w', (Builtin.append_ #[34, 34] ty #[v, u]).run Tryd.prog w = .ok v' w' ∧
      (Row w' 32 v' (vs ++ [x]) ∧ Keep (fun k => k < w.heap.size ∧ v.ownBlock ≠ some k) w w' ∧ ∀ k, v'.ownBlock = some k → v.ownBlock = some k ∨ w.heap.size ≤ k) := by
  obtain ⟨i0, hi0, hz0, hs0, hb0⟩ := clk_info
  exact append_at (P := Tryd.prog) 34 32 i0 (.slice none 0 0) 24 Tryd.underlying34 hi0 hz0 hs0 hb0 rfl w ty v u _ [x] hown hu (fun y hy => by rw [List.mem_singleton.1 hy]; exact h1) (by simp; omega) (by simp; omega)
theorem int_append_at (w : World) (ty : TypeId) (v u : Value) (x : Int) (vs : List Value) {p : Nat → Prop} (hown : Row w 3 v vs) (hu : Cells w p u [.int .i64 x]) (hl : vs.length ≤ 100000) :
    ∃ v' w', (Builtin.append_ #[32, 32] ty #[v, u]).run Tryd.prog w = .ok v' w' ∧
      (Row w' 3 v' (vs ++ [.int .i64 x]) ∧ Keep (fun k => k < w.heap.size ∧ v.ownBlock ≠ some k) w w' ∧ ∀ k, v'.ownBlock = some k → v.ownBlock = some k ∨ w.heap.size ≤ k) := by
  obtain ⟨i0, hi0, hz0, hs0, hb0⟩ := int_info
  exact append_at (P := Tryd.prog) 32 3 i0 (.int .i64 0) 8 Tryd.underlying32 hi0 hz0 hs0 hb0 rfl w ty v u _ [.int .i64 x] hown hu (fun y hy => by rw [List.mem_singleton.1 hy]; rfl) (by simp; omega) (by simp; omega)
/-- a row of one, just made. -/
theorem one_made (w : World) (T : TypeId) (x : Value) : Cells (w.alloc (.cells #[x] T)) (fun b => w.heap.size ≤ b) (.slice (some ⟨w.heap.size, 0, none⟩) 1 1) [x] := by
  have := Cells.of_block (w := w.alloc (.cells #[x] T)) (b := w.heap.size) (off := 0) (n := 1) (cap := 1) (cur := [x]) (p := fun b => w.heap.size ≤ b) (heap_alloc_new w _) (Nat.le_refl _) (Nat.le_refl _) (Nat.le_refl _) (by decide)
  simpa using this
end Go.Proofs.YtalihehmbiohlaaDoor
