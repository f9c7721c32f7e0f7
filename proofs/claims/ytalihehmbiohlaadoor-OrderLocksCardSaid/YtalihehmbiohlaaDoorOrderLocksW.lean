/-
  Step by step: the statement OrderLocks.
-/
import Derived.Test.YtalihehmbiohlaaDoorOrderReadsW
import Derived.Test.YtalihehmbiohlaaDoorOrdB
import Derived.Test.YtalihehmbiohlaaDoorRowC
namespace Go.Proofs.YtalihehmbiohlaaDoor
open Go.RowKit Go.Maps Go.Proofs.Mem Go.Proofs.Txt Go.Proofs.Ord Go.Proofs.Mp

theorem and7 (g : Int) : 0 ≤ bits .and .i64 g 7 ∧ bits .and .i64 g 7 < 8 := by
  have h1 : (BitVec.ofInt 64 g &&& BitVec.ofInt 64 7).toNat ≤ 7 := by
    rw [BitVec.toNat_and]
    exact Nat.and_le_right
  have h2 : bits .and .i64 g 7 = IntKind.i64.wrap ((BitVec.ofInt 64 g &&& BitVec.ofInt 64 7).toNat : Int) := rfl
  rw [h2]
  obtain ⟨n, hn⟩ : ∃ n, (BitVec.ofInt 64 g &&& BitVec.ofInt 64 7).toNat = n := ⟨_, rfl⟩
  rw [hn] at h1 ⊢
  have h3 : IntKind.i64.wrap (n : Int) = (n : Int) := by rw [IntKind.wrap_i64]; omega
  omega
/-- what is kept of a trace so far: the holder. -/
theorem locked_hold {m : Int} {l : List Ev} (h : Locked m l) (i : Nat) (hi : i ≤ l.length) : -1 ≤ holdAt l i ∧ holdAt l i < 8 := by
  induction i with
  | zero => exact ⟨by show (-1 : Int) ≤ -1; decide, by show (-1 : Int) < 8; decide⟩
  | succ i ih =>
    have h1 := ih (by omega)
    have h2 := h i (by omega)
    rw [holdAt_succ l i (by omega)]
    simp only [mayBe, Bool.and_eq_true, decide_eq_true_eq] at h2
    unfold holdN
    split
    · omega
    · split <;> omega
theorem holdAt_app (l : List Ev) (e : Ev) (i : Nat) (hi : i ≤ l.length) : holdAt (l ++ [e]) i = holdAt l i := by
  unfold holdAt
  rw [List.take_append_of_le_length hi]
theorem holdAt_end (l : List Ev) (e : Ev) : holdAt (l ++ [e]) (l ++ [e]).length = holdN (holdAt l l.length) e := by
  unfold holdAt
  rw [List.take_length, List.take_length, List.foldl_append]
  rfl
theorem locked_app {m : Int} {l : List Ev} {e : Ev} (h : Locked m l) (he : mayBe m (holdAt l l.length) e = true) : Locked m (l ++ [e]) := by
  intro i hi
  rw [List.length_append, List.length_singleton] at hi
  by_cases h1 : i < l.length
  · rw [holdAt_app l e i (by omega), List.getElem_append_left h1]
    exact h i h1
  · obtain rfl : i = l.length := by omega
    rw [holdAt_app l e _ (Nat.le_refl _)]
    simpa using he
theorem locked_ok {m : Int} {l : List Ev} (h : Locked m l) : l.all Ev.ok = true := by
  rw [List.all_eq_true]
  intro e he
  obtain ⟨i, hi, rfl⟩ := List.mem_iff_getElem.1 he
  have := h i hi
  simp only [mayBe, Bool.and_eq_true, Bool.or_eq_true, decide_eq_true_eq] at this
  simp only [Ev.ok, Bool.and_eq_true, Bool.or_eq_true, decide_eq_true_eq, Bool.not_eq_true', beq_eq_false_iff_ne]
  omega

/-- a row of kept events that grows since w0; who holds the mutex. -/
structure LkIn (w0 wr : World) (m : Int) (kl : List Ev) (s5 : Value) (H : Int) : Prop where
  r : OwnS w0.heap.size wr 25 4 s5 (kl.map evC)
  hold : holdAt kl kl.length = H
  lk : Locked m kl
  ob : ∀ e ∈ kl, (Lit.int .i64 e.obj).wf = true
  keep : Keep (· < w0.heap.size) w0 wr
section
variable {w0 wr wx : World} {m H : Int} {kl : List Ev} {s5 v : Value} {e : Ev}
theorem LkIn.next (h : LkIn w0 wr m kl s5 H) (k : Keep (· < wr.heap.size) wr wx) : LkIn w0 wx m kl s5 H :=
  ⟨h.r.keep k (fun _ hb => (h.r.lt hb).2), h.hold, h.lk, h.ob, h.keep.trans (k.mono fun _ hb => Nat.lt_of_lt_of_le hb h.keep.size)⟩
theorem LkIn.app (h : LkIn w0 wr m kl s5 H) (r : OwnS w0.heap.size wx 25 4 v ((kl ++ [e]).map evC)) (k : Keep (fun b => b < wr.heap.size ∧ s5.ownBlock ≠ some b) wr wx) (hm : mayBe m H e = true) (ho : (Lit.int .i64 e.obj).wf = true) : LkIn w0 wx m (kl ++ [e]) v (holdN H e) :=
  ⟨r, by rw [holdAt_end, h.hold], locked_app h.lk (by rw [h.hold]; exact hm), fun x hx => by
    rcases List.mem_append.1 hx with h1 | h1
    · exact h.ob x h1
    · rw [List.mem_singleton.1 h1]; exact ho, h.keep.trans (k.mono fun b (hb : b < w0.heap.size) => ⟨Nat.lt_of_lt_of_le hb h.keep.size, fun e => by have := (h.r.lt e).1; omega⟩)⟩
/-- a box younger than the row changes. -/
theorem LkIn.set (h : LkIn w0 wr m kl s5 H) {E i : Nat} (h3 : s5.ownBlock ≠ some E) (h0 : w0.heap.size ≤ E) (x : Value) : LkIn w0 (wr.setCell ⟨E, i, none⟩ x) m kl s5 H := by
  have k : Keep (fun b => b ≠ E) wr (wr.setCell ⟨E, i, none⟩ x) := (Keep.refl _ _).setCell _ (by simp)
  exact ⟨h.r.keep k (fun b hb e => h3 (e ▸ hb)), h.hold, h.lk, h.ob, h.keep.trans (k.mono fun b (hb : b < w0.heap.size) => by omega)⟩
end

theorem EvsAt.s {w : World} {p : Nat → Prop} {v : Value} {l : List Ev} (h : EvsAt w p v l) : AtS w p 4 v (l.map evC) := by
  obtain ⟨a, len, cap, rfl, h1, h2, h3, h4⟩ := h
  refine ⟨a, len, cap, rfl, by rw [List.length_map]; exact h1, h2, h3, fun i x hx => ?_⟩
  rw [List.getElem?_map] at hx
  obtain ⟨e, he, rfl⟩ := Option.map_eq_some_iff.1 hx
  exact h4 i e he
theorem evC_len {l : List Ev} : ∀ x ∈ l.map evC, x.length = 4 := fun x hx => by obtain ⟨e, _, rfl⟩ := List.mem_map.1 hx; rfl
theorem ev_copy (B : Nat) (w : World) (ty : TypeId) (v s : Value) (p : Nat → Prop) (l : List Ev) (h : OwnS B w 25 4 v []) (hs : EvsAt w p s l) (hb : l.length ≤ 1000000) (hB : B ≤ w.heap.size) :
    ∃ v' w', (Builtin.append_ #[22, 22] ty #[v, s]).run Tryd.prog w = .ok v' w' ∧ OwnS B w' 25 4 v' (l.map evC) ∧ Keep (fun b => b < w.heap.size ∧ v.ownBlock ≠ some b) w w' ∧ ∀ b, v'.ownBlock = some b → v.ownBlock = some b ∨ w.heap.size ≤ b :=
  copy_s 22 25 _ 4 32 Tryd.underlying22 event_info rfl (by decide) B w ty v s p (l.map evC) h hs.s evC_len (fun x hx y hy => by
    obtain ⟨e, _, rfl⟩ := List.mem_map.1 hx
    simp only [evC, List.mem_cons, List.not_mem_nil, or_false] at hy
    rcases hy with rfl | rfl | rfl | rfl <;> rfl) (by rw [List.length_map]; exact hb) (by decide) hB
/-- an event as one of goroutine 0's. -/
def oneE (e : Ev) : Ev := ⟨0, if e.kd = 10 ∨ e.kd < 1 ∨ 12 < e.kd then 11 else e.kd, e.obj, e.at_⟩
/-- a row of events of its own, younger than w0. -/
structure RowIn (w0 wr : World) (os : List Ev) (v : Value) : Prop where
  r : OwnS w0.heap.size wr 25 4 v (os.map evC)
  keep : Keep (· < w0.heap.size) w0 wr
theorem set_get {α : Type} {l : List α} {i : Nat} {x y : α} (h : l[i]? = some x) : (l.set i y)[i]? = some y := by
  have hi : i < l.length := by
    rcases Nat.lt_or_ge i l.length with h1 | h1
    · exact h1
    · rw [List.getElem?_eq_none h1] at h; cases h
  simp [hi]
theorem one_next {l : List Ev} {i : Nat} {x : Ev} (h : l[i]? = some x) : (l.take (i + 1)).map oneE ++ l.drop (i + 1) = ((l.take i).map oneE ++ l.drop i).set i (oneE x) := by
  have hi : i < l.length := by
    rcases Nat.lt_or_ge i l.length with h1 | h1
    · exact h1
    · rw [List.getElem?_eq_none h1] at h; cases h
  have hx : l[i] = x := by rw [List.getElem?_eq_getElem hi] at h; exact Option.some.inj h
  rw [List.set_append_right _ _ (by simp; omega), List.take_succ_eq_append_getElem hi, List.map_append, hx]
  rw [show i - ((l.take i).map oneE).length = 0 by simp; omega, List.drop_eq_getElem_cons hi]
  simp only [List.set_cons_zero, List.append_assoc, List.singleton_append, List.map_cons, List.map_nil]
section
variable {w0 wr : World} {os : List Ev} {ra : Option Addr} {n c i j g : Nat} {x x' : Ev} {y : Value}
theorem RowIn.block (h : RowIn w0 wr os (.slice ra n c)) (hx : os[i]? = some x) : ∃ b, ra = some ⟨b, 0, none⟩ := by
  rcases h.r.2 with ⟨_, e⟩ | ⟨g, cap, cur, e, _⟩
  · rw [List.length_map] at e
    rw [List.getElem?_eq_none (by omega)] at hx
    cases hx
  · injection e with e; exact ⟨g, e⟩
theorem RowIn.at_ (h : RowIn w0 wr os (.slice (some ⟨g, 0, none⟩) n c)) (hx : os[i]? = some x) (j : Nat) (y : Value) (hy : (evC x)[j]? = some y) : wr.cell? ⟨g, i * 4 + j, none⟩ = some y ∧ wr.frozen? ⟨g, i * 4 + j, none⟩ = false :=
  (h.r.in_place evC_len i j (evC x) y (by rw [List.getElem?_map, hx]; rfl) hy).2
theorem RowIn.set (h : RowIn w0 wr os (.slice (some ⟨g, 0, none⟩) n c)) (hx : os[i]? = some x) (hj : j < 4) (he : evC x' = (evC x).set j y) : RowIn w0 (wr.setCell ⟨g, i * 4 + j, none⟩ y) (os.set i x') (.slice (some ⟨g, 0, none⟩) n c) :=
  ⟨by
    have := h.r.set evC_len i j (evC x) y (by rw [List.getElem?_map, hx]; rfl) hj
    rw [List.map_set, he]
    exact this, h.keep.setCell _ (by have := (h.r.lt (j := g) rfl).1; simp; omega)⟩
end
set_option maxRecDepth 100000 in
set_option maxHeartbeats 8000000 in
theorem orderLocks_walk (v : Value) (l : List Ev) (m : Int) (ea : Addr) (w : World) (hin : ∀ e ∈ l, Ev.inRange e) (hm : (Lit.int .i64 m).wf = true) (he1 : ErrAt w 0 ea) (hv : EvsAt w (fun _ => True) v l) :
    Calls Tryd.prog 3 #[v, .int .i64 m] w fun e w' => e = .returned (.bool true) ∧ Keep (· < w.heap.size) w w' := by
  have HE := hid he1
  have HV := hid (hv.lt.mono (q := fun b => b < w.heap.size) (fun _ h => h.1))
  have HIN := hid hin
  have HM := hid hm
  obtain ⟨va, vc, rfl, hc1, hc2⟩ := hv.form
  clear hin he1 hv hm
  go_enter Tryd.func3, Tryd.ntmps3
  go_wp2_with fail
  refine (alive18_walk w _ HE.out.cell HE.out.lt).mono ?_
  rintro e w2 ⟨rfl, k1⟩
  have K2 := hid k1
  clear k1
  by_cases h200 : 200 < l.length
  · have d1 : decide ((200 : Int) < (l.length : Int)) = true := by simp; omega
    have d2 : decide (200 < l.length) = true := by simp; omega
    go_wp2_with fail
    go_ret
    exact ⟨rfl, K2.out⟩
  · have d1 : decide ((200 : Int) < (l.length : Int)) = false := by simp; omega
    have d2 : decide (200 < l.length) = false := by simp; omega
    have hlen : l.length ≤ 200 := by omega
    clear h200
    go_wp2_with fail
    refine wp_world (fun w3 => LkIn w2 w3 m [] (.slice (some ⟨w2.heap.size, 0, none⟩) 0 0) (-1)) ?_ ?_
    · exact ⟨OwnS_empty (heap_alloc_new w2 _) (Nat.le_refl _), rfl, fun i hi => absurd hi (Nat.not_lt_zero _), (fun e he => by cases he), (Keep.refl _ _).alloc _ (fun _ h => h)⟩
    rintro w3 HR3
    have HR3 := hid HR3
    go_loopg [5, 6, 23] l.length (fun k s5 s6 s23 wr => ∃ (i : Nat) (kl : List Ev) (H : Int), i + k = l.length ∧ kl.length ≤ i ∧ s23 = .int .i64 (i : Int) ∧ s6 = .int .i64 H ∧ LkIn w2 wr m kl s5 H)
    case atStart => exact ⟨0, [], -1, by omega, Nat.le_refl _, rfl, rfl, HR3.out⟩
    case round =>
      obtain ⟨i, kl, H, hik, hkl, rfl, rfl, hin⟩ := hrel
      have HA0 := hid hin
      by_cases hlt : i < l.length
      · have l0 : (i : Int) < (l.length : Int) := by omega
        obtain ⟨x, hx⟩ : ∃ x, l[i]? = some x := ⟨_, List.getElem?_eq_getElem hlt⟩
        have hx' : l[i] = x := by rw [List.getElem?_eq_getElem hlt] at hx; exact Option.some.inj hx
        obtain ⟨blk, off, hva, hblk, hrg⟩ := HV.out.get i hlt
        rw [hx'] at hrg
        subst hva
        have RG := hid (show wr.rangeAt blk (off + i * 4) (evC x) from fun j v hv => ((K2.out.trans (hin.keep.mono fun b hb => Nat.lt_of_lt_of_le hb K2.out.size)).cell (x := ⟨blk, off + i * 4 + j, none⟩) hblk).trans (hrg j v hv))
        have HX := hid (HIN.out x (List.mem_of_getElem? hx))
        have osz := ev_size x
        have o1 : (evC x).toArray.all (·.oneCell') = true := by simp [evC, Value.oneCell']
        have HI := hid (And.intro hin hik)
        have HL := hid (show kl.length ≤ i ∧ i < 200 by omega)
        have HH := hid (locked_hold hin.lk kl.length (Nat.le_refl _))
        rw [hin.hold] at HH
        have hi200 : i ≤ 200 := by omega
        clear hrg hx hx' hik hlt hblk hin hkl
        go_upto_region 10 with (first
          | (refine wpList_load_mid rfl 25 (.tmp 25) rfl blk (off + i * 4) rfl (evC x) _ RG.out Tryd.underlying25 rfl osz ?_)
          | (refine wpList_store_row rfl 25 (.tmp 8) (.tmp 26) rfl wr.heap.size (evC x).toArray rfl rfl 25 _ (heap_alloc_new wr _) (by rw [List.size_toArray]; exact osz) rfl o1 ?_))
        obtain ⟨E, hE⟩ : ∃ E, wr.heap.size = E := ⟨_, rfl⟩
        refine wp_world (fun wa => Keep (· < wr.heap.size) wr wa ∧ wa.heap[wr.heap.size]? = some (.cells (evC x).toArray 25 (0, 0)))
          ⟨((Keep.refl _ _).alloc _ (fun _ h => h)).setRow _ (by simp), heap_setRow (heap_alloc_new wr _) _⟩ ?_
        rintro wa ⟨ka, ra2⟩
        have HA := hid (HI.out.1.next ka)
        have HE0 := hid (show w2.heap.size ≤ E by rw [← hE]; exact HI.out.1.keep.size)
        have HEE := hid (And.intro (hE ▸ ra2) (And.intro (Array.getElem?_eq_some_iff.1 (hE ▸ ra2)).1 (show u5.ownBlock ≠ some E from fun e => by have := (HI.out.1.r.lt e).2; omega)))
        obtain ⟨ra5, n5, rc5, rfl⟩ : ∃ a n c, u5 = .slice a n c := by obtain ⟨a, c, e⟩ := HI.out.1.r.form; exact ⟨a, _, c, e⟩
        rw [hE]
        clear ka ra2 hE
        obtain ⟨g, kd, ob, a⟩ := x
        have e0 : wa.cell? ⟨E, 0, none⟩ = some (.int .i64 g) := cell_at HEE.out.1 0
        have e1 : wa.cell? ⟨E, 1, none⟩ = some (.int .i64 kd) := cell_at HEE.out.1 1
        have e2 : wa.cell? ⟨E, 2, none⟩ = some (.int .i64 ob) := cell_at HEE.out.1 2
        have e3 : wa.cell? ⟨E, 3, none⟩ = some (.int .i64 a) := cell_at HEE.out.1 3
        have fE : wa.frozen? ⟨E, 0, none⟩ = false := frozen_at HEE.out.1 0
        go_upto_region 11 with fail
        have HS := hid (And.intro ((HA.out).set (i := 0) HEE.out.2.2 HE0.out (.int .i64 (bits .and .i64 g 7))) (set_at (cs := evC ⟨g, kd, ob, a⟩) HEE.out.1 0 (.int .i64 (bits .and .i64 g 7))))
        obtain ⟨w5, hw5⟩ : ∃ w5, wa.setCell ⟨E, 0, none⟩ (.int .i64 (bits .and .i64 g 7)) = w5 := ⟨_, rfl⟩
        rw [hw5] at HS ⊢
        obtain ⟨q, hq⟩ : ∃ q, bits .and .i64 g 7 = q := ⟨_, rfl⟩
        have Q := hid (hq ▸ and7 g)
        rw [hq] at HS
        try rw [hq]
        clear hw5 e0 e1 e2 e3 fE
        have e0 : w5.cell? ⟨E, 0, none⟩ = some (.int .i64 q) := cell_at HS.out.2 0
        have e1 : w5.cell? ⟨E, 1, none⟩ = some (.int .i64 kd) := cell_at HS.out.2 1
        have e2 : w5.cell? ⟨E, 2, none⟩ = some (.int .i64 ob) := cell_at HS.out.2 2
        have e3 : w5.cell? ⟨E, 3, none⟩ = some (.int .i64 a) := cell_at HS.out.2 3
        by_cases hk1 : kd = 1
        · subst hk1
          by_cases hq : H = q
          · subst hq
            have t1 : (H != H) = false := by simp
            have HP := hid (fun ty : TypeId => ev_append w2.heap.size (w5.alloc (.cells (evC ⟨H, 1, ob, a⟩).toArray 25)) ty _ _ ⟨H, 1, ob, a⟩ ⟨w5.heap.size, 0, none⟩ ((HS.out.1.r).keep (q := fun b => b < w5.heap.size) ((Keep.refl _ _).alloc _ (fun _ h => h)) (fun b hb => ((HS.out.1.r).lt hb).2)) (fun q0 y hq0 => by rw [addr_add, Nat.zero_add, cell_at (heap_alloc_new w5 (.cells (evC ⟨H, 1, ob, a⟩).toArray 25)), hq0]) (by have := HL.out; omega) (by rw [World.size_alloc]; have := HS.out.1.keep.size; omega))
            go_wp2_with (at_builtin; refine wpList_app rfl (.tmp 68) (.tmp 70) 22 22 rfl _ (HP.out _) ?_; rintro v7 w7 ⟨r, k, o⟩; have H7 := hid (And.intro r (And.intro k o)); clear r k o)
            have HB := hid ((HS.out.1.next ((Keep.refl _ _).alloc (.cells (evC ⟨H, 1, ob, a⟩).toArray 25) (fun _ h => h))).app (e := ⟨H, 1, ob, a⟩) H7.out.1 H7.out.2.1 (by have := Q.out; simp [mayBe]; omega) HX.out.2.2.1)
            go_roundg (gk - 1)
            case measure => have := HI.out.2; omega
            case rel => exact ⟨i + 1, kl ++ [⟨H, 1, ob, a⟩], _, by have := HI.out.2; omega, by rw [List.length_append, List.length_singleton]; have := HL.out; omega, by go_num, rfl, by simpa [holdN] using HB.out⟩
          · have t1 : (H != q) = true := by simp [hq]
            go_wp2_with fail
            go_roundg (gk - 1)
            case measure => have := HI.out.2; omega
            case rel => exact ⟨i + 1, kl, _, by have := HI.out.2; omega, by have := HL.out; omega, by go_num, rfl, HS.out.1⟩
        by_cases hk2 : kd = 2
        · subst hk2
          by_cases hq : H = q
          · subst hq
            have t1 : (H != H) = false := by simp
            have HP := hid (fun ty : TypeId => ev_append w2.heap.size (w5.alloc (.cells (evC ⟨H, 2, ob, a⟩).toArray 25)) ty _ _ ⟨H, 2, ob, a⟩ ⟨w5.heap.size, 0, none⟩ ((HS.out.1.r).keep (q := fun b => b < w5.heap.size) ((Keep.refl _ _).alloc _ (fun _ h => h)) (fun b hb => ((HS.out.1.r).lt hb).2)) (fun q0 y hq0 => by rw [addr_add, Nat.zero_add, cell_at (heap_alloc_new w5 (.cells (evC ⟨H, 2, ob, a⟩).toArray 25)), hq0]) (by have := HL.out; omega) (by rw [World.size_alloc]; have := HS.out.1.keep.size; omega))
            go_wp2_with (at_builtin; refine wpList_app rfl (.tmp 68) (.tmp 70) 22 22 rfl _ (HP.out _) ?_; rintro v7 w7 ⟨r, k, o⟩; have H7 := hid (And.intro r (And.intro k o)); clear r k o)
            have HB := hid ((HS.out.1.next ((Keep.refl _ _).alloc (.cells (evC ⟨H, 2, ob, a⟩).toArray 25) (fun _ h => h))).app (e := ⟨H, 2, ob, a⟩) H7.out.1 H7.out.2.1 (by have := Q.out; simp [mayBe]; omega) HX.out.2.2.1)
            go_roundg (gk - 1)
            case measure => have := HI.out.2; omega
            case rel => exact ⟨i + 1, kl ++ [⟨H, 2, ob, a⟩], _, by have := HI.out.2; omega, by rw [List.length_append, List.length_singleton]; have := HL.out; omega, by go_num, rfl, by simpa [holdN] using HB.out⟩
          · have t1 : (H != q) = true := by simp [hq]
            go_wp2_with fail
            go_roundg (gk - 1)
            case measure => have := HI.out.2; omega
            case rel => exact ⟨i + 1, kl, _, by have := HI.out.2; omega, by have := HL.out; omega, by go_num, rfl, HS.out.1⟩
        by_cases hk3 : kd = 3
        · subst hk3
          have fE : w5.frozen? ⟨E, 2, none⟩ = false := frozen_at HS.out.2 2
          go_upto_region 18 with fail
          have HS6 := hid (And.intro ((HS.out.1).set (i := 2) HEE.out.2.2 HE0.out (.int .i64 m)) (set_at (cs := evC ⟨q, 3, ob, a⟩) HS.out.2 2 (.int .i64 m)))
          obtain ⟨w6, hw6⟩ : ∃ w6, w5.setCell ⟨E, 2, none⟩ (.int .i64 m) = w6 := ⟨_, rfl⟩
          rw [hw6] at HS6 ⊢
          clear hw6 e0 e1 e2 e3 fE
          have e0 : w6.cell? ⟨E, 0, none⟩ = some (.int .i64 q) := cell_at HS6.out.2 0
          have e1 : w6.cell? ⟨E, 1, none⟩ = some (.int .i64 3) := cell_at HS6.out.2 1
          have e2 : w6.cell? ⟨E, 2, none⟩ = some (.int .i64 m) := cell_at HS6.out.2 2
          have e3 : w6.cell? ⟨E, 3, none⟩ = some (.int .i64 a) := cell_at HS6.out.2 3
          by_cases hq : 0 ≤ H
          · have t1 : decide (0 ≤ H) = true := by simp [hq]
            go_wp2_with fail
            go_roundg (gk - 1)
            case measure => have := HI.out.2; omega
            case rel => exact ⟨i + 1, kl, _, by have := HI.out.2; omega, by have := HL.out; omega, by go_num, rfl, HS6.out.1⟩
          · have t1 : decide (0 ≤ H) = false := by simp [hq]
            have HP := hid (fun ty : TypeId => ev_append w2.heap.size (w6.alloc (.cells (evC ⟨q, 3, m, a⟩).toArray 25)) ty _ _ ⟨q, 3, m, a⟩ ⟨w6.heap.size, 0, none⟩ ((HS6.out.1.r).keep (q := fun b => b < w6.heap.size) ((Keep.refl _ _).alloc _ (fun _ h => h)) (fun b hb => ((HS6.out.1.r).lt hb).2)) (fun q0 y hq0 => by rw [addr_add, Nat.zero_add, cell_at (heap_alloc_new w6 (.cells (evC ⟨q, 3, m, a⟩).toArray 25)), hq0]) (by have := HL.out; omega) (by rw [World.size_alloc]; have := HS6.out.1.keep.size; omega))
            go_wp2_with (at_builtin; refine wpList_app rfl (.tmp 68) (.tmp 70) 22 22 rfl _ (HP.out _) ?_; rintro v7 w7 ⟨r, k, o⟩; have H7 := hid (And.intro r (And.intro k o)); clear r k o)
            have HB := hid ((HS6.out.1.next ((Keep.refl _ _).alloc (.cells (evC ⟨q, 3, m, a⟩).toArray 25) (fun _ h => h))).app (e := ⟨q, 3, m, a⟩) H7.out.1 H7.out.2.1 (by have := Q.out; simp [mayBe]; omega) HM.out)
            go_roundg (gk - 1)
            case measure => have := HI.out.2; omega
            case rel => exact ⟨i + 1, kl ++ [⟨q, 3, m, a⟩], _, by have := HI.out.2; omega, by rw [List.length_append, List.length_singleton]; have := HL.out; omega, by go_num, rfl, by simpa [holdN] using HB.out⟩
        by_cases hk4 : kd = 4
        · subst hk4
          have fE : w5.frozen? ⟨E, 2, none⟩ = false := frozen_at HS.out.2 2
          go_upto_region 18 with fail
          have HS6 := hid (And.intro ((HS.out.1).set (i := 2) HEE.out.2.2 HE0.out (.int .i64 m)) (set_at (cs := evC ⟨q, 4, ob, a⟩) HS.out.2 2 (.int .i64 m)))
          obtain ⟨w6, hw6⟩ : ∃ w6, w5.setCell ⟨E, 2, none⟩ (.int .i64 m) = w6 := ⟨_, rfl⟩
          rw [hw6] at HS6 ⊢
          clear hw6 e0 e1 e2 e3 fE
          have e0 : w6.cell? ⟨E, 0, none⟩ = some (.int .i64 q) := cell_at HS6.out.2 0
          have e1 : w6.cell? ⟨E, 1, none⟩ = some (.int .i64 4) := cell_at HS6.out.2 1
          have e2 : w6.cell? ⟨E, 2, none⟩ = some (.int .i64 m) := cell_at HS6.out.2 2
          have e3 : w6.cell? ⟨E, 3, none⟩ = some (.int .i64 a) := cell_at HS6.out.2 3
          by_cases hq : H = q
          · subst hq
            have t1 : (H != H) = false := by simp
            have HP := hid (fun ty : TypeId => ev_append w2.heap.size (w6.alloc (.cells (evC ⟨H, 4, m, a⟩).toArray 25)) ty _ _ ⟨H, 4, m, a⟩ ⟨w6.heap.size, 0, none⟩ ((HS6.out.1.r).keep (q := fun b => b < w6.heap.size) ((Keep.refl _ _).alloc _ (fun _ h => h)) (fun b hb => ((HS6.out.1.r).lt hb).2)) (fun q0 y hq0 => by rw [addr_add, Nat.zero_add, cell_at (heap_alloc_new w6 (.cells (evC ⟨H, 4, m, a⟩).toArray 25)), hq0]) (by have := HL.out; omega) (by rw [World.size_alloc]; have := HS6.out.1.keep.size; omega))
            go_wp2_with (at_builtin; refine wpList_app rfl (.tmp 68) (.tmp 70) 22 22 rfl _ (HP.out _) ?_; rintro v7 w7 ⟨r, k, o⟩; have H7 := hid (And.intro r (And.intro k o)); clear r k o)
            have HB := hid ((HS6.out.1.next ((Keep.refl _ _).alloc (.cells (evC ⟨H, 4, m, a⟩).toArray 25) (fun _ h => h))).app (e := ⟨H, 4, m, a⟩) H7.out.1 H7.out.2.1 (by have := Q.out; simp [mayBe]; omega) HM.out)
            go_roundg (gk - 1)
            case measure => have := HI.out.2; omega
            case rel => exact ⟨i + 1, kl ++ [⟨H, 4, m, a⟩], _, by have := HI.out.2; omega, by rw [List.length_append, List.length_singleton]; have := HL.out; omega, by go_num, rfl, by simpa [holdN] using HB.out⟩
          · have t1 : (H != q) = true := by simp [hq]
            go_wp2_with fail
            go_roundg (gk - 1)
            case measure => have := HI.out.2; omega
            case rel => exact ⟨i + 1, kl, _, by have := HI.out.2; omega, by have := HL.out; omega, by go_num, rfl, HS6.out.1⟩
        have t1 : (kd == 1) = false := by simp [hk1]
        have t2 : (kd == 2) = false := by simp [hk2]
        have t3 : (kd == 3) = false := by simp [hk3]
        have t4 : (kd == 4) = false := by simp [hk4]
        go_wp2_with fail
        go_roundg (gk - 1)
        case measure => have := HI.out.2; omega
        case rel => exact ⟨i + 1, kl, _, by have := HI.out.2; omega, by have := HL.out; omega, by go_num, rfl, HS.out.1⟩
      · obtain rfl : l.length = i := by omega
        have hr1 := locked_ok HA0.out.lk
        have hr4 := races_locks [] m kl HA0.out.lk
        have hr2 := HA0.out.ob
        have HWW := hid (K2.out.trans (HA0.out.keep.mono fun b hb => Nat.lt_of_lt_of_le hb K2.out.size))
        have HEW := HE.out.keep HWW.out HE.out.lt HE.out.blt
        have HR := hid (races_walk [] kl u5 (.slice none 0 0) _ wr _ (fun _ => True) (OwnS_evs HA0.out.r) (Cells.nil _ _) HEW.cell HEW.lt hr1 hr2 (by omega) (by intro r hr; cases hr))
        rw [hr4] at HR
        obtain ⟨ra5, n5, rc5, rfl⟩ : ∃ a n c, u5 = .slice a n c := by obtain ⟨a, c, e⟩ := HA0.out.r.form; exact ⟨a, _, c, e⟩
        clear hr1 hr2 hr4 HEW hlt hik hin hkl
        go_wp2_with fail
        refine HR.out.mono ?_
        rintro e w4 ⟨o4, rfl, q4, k4⟩
        obtain ⟨a4, c4, rfl⟩ := q4.form
        have K4 := hid (HWW.out.trans (k4.mono fun b hb => Nat.lt_of_lt_of_le hb HWW.out.size))
        clear q4 k4
        simp only [List.map_nil, List.length_nil]
        have HC := hid (fun ty : TypeId => ev_copy w4.heap.size (w4.alloc (.cells #[] 25)) ty (.slice (some ⟨w4.heap.size, 0, none⟩) 0 0) (.slice va l.length vc) _ l (OwnS_empty (heap_alloc_new w4 _) (Nat.le_refl _)) (HV.out.keep (K4.out.trans ((Keep.refl _ _).alloc (.cells #[] 25) (fun b hb => Nat.lt_of_lt_of_le hb K4.out.size))) (fun _ h => h)) (by omega) (by rw [World.size_alloc]; omega))
        go_upto_region 26 with (at_builtin; refine wpList_app rfl (.tmp 78) (.tmp 79) 22 22 rfl _ (HC.out _) ?_; rintro v5 w5 ⟨r, k, o⟩; have H5 := hid (And.intro r k); clear r k o)
        have K5 := hid (K4.out.trans ((((Keep.refl _ _).alloc (.cells #[] 25) (fun b hb => Nat.lt_of_lt_of_le hb K4.out.size)).trans (H5.out.2.mono fun b (hb : b < w.heap.size) => ⟨by rw [World.size_alloc]; have := K4.out.size; omega, fun e => by have := K4.out.size; injection e with e; exact absurd e (Nat.ne_of_gt (Nat.lt_of_lt_of_le hb this))⟩))))
        obtain ⟨ra5, rc5, rfl⟩ := H5.out.1.form
        rw [List.length_map] at H5 ⊢
        have HB := hid (show RowIn w w5 l (.slice ra5 l.length rc5) from ⟨H5.out.1.less K4.out.size, K5.out⟩)
        clear H5
        go_wp2_with fail
        go_loopg [12, 83] l.length (fun k s12 s83 wr => ∃ i : Nat, i + k = l.length ∧ s83 = .int .i64 (i : Int) ∧ RowIn w wr ((l.take i).map oneE ++ l.drop i) (.slice ra5 l.length rc5))
        case atStart => exact ⟨0, by omega, rfl, by simpa using HB.out⟩
        case round =>
          obtain ⟨i, hik, rfl, hin⟩ := hrel
          by_cases hlt : i < l.length
          · have l0 : (i : Int) < (l.length : Int) := by omega
            obtain ⟨x, hx0⟩ : ∃ x, l[i]? = some x := ⟨_, List.getElem?_eq_getElem hlt⟩
            have hx : ((l.take i).map oneE ++ l.drop i)[i]? = some x := by rw [List.getElem?_append_right (by simp; omega)]; simpa [Nat.min_eq_left (Nat.le_of_lt hlt)] using hx0
            have HN := hid (one_next hx0)
            obtain ⟨b, rfl⟩ := hin.block hx
            have HI := hid (And.intro hin hik)
            have HX := hid hx
            obtain ⟨g, kd, ob, a⟩ := x
            have e0 : wr.cell? ⟨b, i * 4, none⟩ = some (.int .i64 g) := (hin.at_ hx 0 _ rfl).1
            have f0 : wr.frozen? ⟨b, i * 4, none⟩ = false := (hin.at_ hx 0 _ rfl).2
            obtain ⟨os, hos⟩ : ∃ os, (l.take i).map oneE ++ l.drop i = os := ⟨_, rfl⟩
            rw [hos] at HX HI HN
            clear hin hik hx hx0 hos
            go_upto_region 30 with fail
            have HS := hid (HI.out.1.set HX.out (j := 0) (by decide) (x' := ⟨0, kd, ob, a⟩) (y := .int .i64 0) rfl)
            have HX1 := hid (show (os.set i ⟨0, kd, ob, a⟩)[i]? = some ⟨0, kd, ob, a⟩ from set_get HX.out)
            obtain ⟨w6, hw6⟩ : ∃ w6, wr.setCell ⟨b, i * 4, none⟩ (.int .i64 0) = w6 := ⟨_, rfl⟩
            rw [show wr.setCell ⟨b, i * 4 + 0, none⟩ (.int .i64 0) = w6 from hw6] at HS
            try rw [hw6]
            clear hw6 f0 e0
            have e1 : w6.cell? ⟨b, i * 4 + 1, none⟩ = some (.int .i64 kd) := (HS.out.at_ HX1.out 1 _ rfl).1
            have f1 : w6.frozen? ⟨b, i * 4 + 1, none⟩ = false := (HS.out.at_ HX1.out 1 _ rfl).2
            by_cases hk : kd = 10 ∨ kd < 1 ∨ 12 < kd
            · have HO := hid (show oneE ⟨g, kd, ob, a⟩ = ⟨0, 11, ob, a⟩ by simp [oneE, hk])
              have HS7 := hid (HS.out.set HX1.out (j := 1) (by decide) (x' := ⟨0, 11, ob, a⟩) (y := .int .i64 11) rfl)
              by_cases h1 : kd = 10
              · have t1 : (kd == 10) = true := by simp [h1]
                clear h1 hk
                go_wp2_with fail
                go_roundg (gk - 1)
                case measure => have := HI.out.2; omega
                case rel => exact ⟨i + 1, by have := HI.out.2; omega, by go_num, by
                  rw [HN.out, HO.out]
                  have := HS7.out
                  rw [List.set_set] at this
                  exact this⟩
              · have t1 : (kd == 10) = false := by simp [h1]
                by_cases h2 : kd < 1
                · have t2 : decide (kd < 1) = true := by simp [h2]
                  clear h1 hk h2
                  go_wp2_with fail
                  go_roundg (gk - 1)
                  case measure => have := HI.out.2; omega
                  case rel => exact ⟨i + 1, by have := HI.out.2; omega, by go_num, by
                    rw [HN.out, HO.out]
                    have := HS7.out
                    rw [List.set_set] at this
                    exact this⟩
                · have t2 : decide (kd < 1) = false := by simp; omega
                  have t3 : decide (12 < kd) = true := by simp; omega
                  clear h1 hk h2
                  go_wp2_with fail
                  go_roundg (gk - 1)
                  case measure => have := HI.out.2; omega
                  case rel => exact ⟨i + 1, by have := HI.out.2; omega, by go_num, by
                    rw [HN.out, HO.out]
                    have := HS7.out
                    rw [List.set_set] at this
                    exact this⟩
            · have HO := hid (show oneE ⟨g, kd, ob, a⟩ = ⟨0, kd, ob, a⟩ by simp [oneE, hk])
              have t1 : (kd == 10) = false := by simp; omega
              have t2 : decide (kd < 1) = false := by simp; omega
              have t3 : decide (12 < kd) = false := by simp; omega
              have HS7 := HS
              clear hk
              go_wp2_with fail
              go_roundg (gk - 1)
              case measure => have := HI.out.2; omega
              case rel => exact ⟨i + 1, by have := HI.out.2; omega, by go_num, by rw [HN.out, HO.out]; exact HS7.out⟩
          · obtain rfl : l.length = i := by omega
            rw [List.take_length, List.drop_length, List.append_nil] at hin
            obtain ⟨os, hos⟩ : ∃ os, l.map oneE = os := ⟨_, rfl⟩
            rw [hos] at hin
            have hom : ∀ e ∈ os, ∃ x ∈ l, e = oneE x := fun e he => by
              rw [← hos] at he
              obtain ⟨x, h1, h2⟩ := List.mem_map.1 he
              exact ⟨x, h1, h2.symm⟩
            have ho1 : os.all Ev.ok = true := List.all_eq_true.2 fun e he => by
              obtain ⟨x, h1, rfl⟩ := hom e he
              unfold oneE
              split
              · simp [Ev.ok]
              · next h => simp [Ev.ok]; omega
            have ho2 : ∀ e ∈ os, (Lit.int .i64 e.obj).wf = true := fun e he => by
              obtain ⟨x, h1, rfl⟩ := hom e he
              exact (HIN.out x h1).2.2.1
            have ho3 : os.length ≤ 200 := by rw [← hos, List.length_map]; exact hlen
            have ho4 : racesP [] os = [] := races_one [] os fun e he => by
              obtain ⟨x, h1, rfl⟩ := hom e he
              rfl
            have HK := hid hin.keep
            have HEW := HE.out.keep HK.out HE.out.lt HE.out.blt
            have HR2 := hid (races_walk [] os (.slice ra5 l.length rc5) (.slice none 0 0) _ wr _ (fun _ => True) (OwnS_evs hin.r) (Cells.nil _ _) HEW.cell HEW.lt ho1 ho2 ho3 (by intro r hr; cases hr))
            rw [ho4] at HR2
            clear hom ho1 ho2 ho3 ho4 hos HEW hlt hik hin
            go_wp2_with fail
            refine HR2.out.mono ?_
            rintro e w6 ⟨o6, rfl, q6, k6⟩
            obtain ⟨a6, c6, rfl⟩ := q6.form
            have K6 := hid (HK.out.trans (k6.mono fun b hb => Nat.lt_of_lt_of_le hb HK.out.size))
            clear q6 k6
            simp only [List.map_nil, List.length_nil]
            go_wp2_with fail
            go_ret
            exact ⟨rfl, K6.out⟩
end Go.Proofs.YtalihehmbiohlaaDoor
