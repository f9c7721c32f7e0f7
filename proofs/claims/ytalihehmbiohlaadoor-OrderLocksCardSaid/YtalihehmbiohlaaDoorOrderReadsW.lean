/-
  Step by step: the statement OrderReads.
-/
import Derived.Test.YtalihehmbiohlaaDoorOrdZ
import Derived.Test.YtalihehmbiohlaaDoorOrdN
import Derived.Test.YtalihehmbiohlaaDoorOrdF
import Derived.Test.YtalihehmbiohlaaDoorInC
namespace Go.Proofs.YtalihehmbiohlaaDoor
open Go.RowKit Go.Maps Go.Proofs.Mem Go.Proofs.Txt Go.Proofs.Ord Go.Proofs.Mp

theorem event_info : (Tryd.prog.info? 25).map (fun i => (i.zero, i.size, i.bytes)) = some (some (.agg (evC ⟨0, 0, 0, 0⟩).toArray), 4, 32) := by kernel_rfl
theorem ev_append (B : Nat) (w : World) (ty : TypeId) (v : Value) (l : List Ev) (e : Ev) (u : Addr) (h : OwnS B w 25 4 v (l.map evC)) (hnews : ∀ j y, (evC e)[j]? = some y → w.cell? (u.add j) = some y) (hb : l.length ≤ 1000000) (hB : B ≤ w.heap.size) :
    ∃ v' w', (Builtin.append_ #[22, 22] ty #[v, .slice (some u) 1 1]).run Tryd.prog w = .ok v' w' ∧ OwnS B w' 25 4 v' ((l ++ [e]).map evC) ∧ Keep (fun b => b < w.heap.size ∧ v.ownBlock ≠ some b) w w' ∧ ∀ b, v'.ownBlock = some b → v.ownBlock = some b ∨ w.heap.size ≤ b := by
  have := append_s 22 25 _ 4 32 Tryd.underlying22 event_info rfl (by decide) B w ty v (l.map evC) (evC e) u h rfl hnews (fun y hy => by
    simp only [evC, List.mem_cons, List.not_mem_nil, or_false] at hy
    rcases hy with rfl | rfl | rfl | rfl <;> rfl) (by rw [List.length_map]; exact hb) (by decide) hB
  rw [List.map_append]
  exact this
theorem OwnS_evs {B : Nat} {w : World} {v : Value} {l : List Ev} (h : OwnS B w 25 4 v (l.map evC)) : EvsAt w (fun b => v.ownBlock = some b) v l := by
  obtain ⟨a, len, cap, rfl, h1, h2, h3, h4⟩ := h.at_ (fun x hx => by obtain ⟨e, _, rfl⟩ := List.mem_map.1 hx; rfl)
  exact ⟨a, len, cap, rfl, by rw [h1, List.length_map], h2, h3, fun i x hx => h4 i (evC x) (by rw [List.getElem?_map, hx]; rfl)⟩
theorem OwnS_empty {B b : Nat} {w : World} {E : TypeId} {k : Nat} (h : w.heap[b]? = some (.cells #[] E (0, 0))) (hb : B ≤ b) : OwnS B w E k (.slice (some ⟨b, 0, none⟩) 0 0) [] :=
  ⟨by simp, .inr ⟨b, 0, #[], rfl, hb, h, Nat.le_refl _, Nat.zero_le _, by simp, by simp⟩⟩
/-- with a place of the goroutine's own. -/
def ownE (e : Ev) : Ev := if e.kd = 2 ∨ e.kd = 1 then { e with obj := e.g } else e
def readB (e : Ev) : Bool := decide (e.kd ≠ 2)
/-- two rows of events that grow side by side since w0. -/
structure RdIn (w0 wr : World) (rs os : List Ev) (s3 s4 : Value) : Prop where
  r : OwnS w0.heap.size wr 25 4 s3 (rs.map evC)
  o : OwnS w0.heap.size wr 25 4 s4 (os.map evC)
  ne : ∀ b, s3.ownBlock = some b → s4.ownBlock ≠ some b
  keep : Keep (· < w0.heap.size) w0 wr
section
variable {w0 wr wx : World} {rs os : List Ev} {s3 s4 v : Value} {e : Ev}
theorem RdIn.next (h : RdIn w0 wr rs os s3 s4) (k : Keep (· < wr.heap.size) wr wx) : RdIn w0 wx rs os s3 s4 :=
  ⟨h.r.keep k (fun b hb => (h.r.lt hb).2), h.o.keep k (fun b hb => (h.o.lt hb).2), h.ne, h.keep.trans (k.mono fun b hb => Nat.lt_of_lt_of_le hb h.keep.size)⟩
theorem RdIn.swap (h : RdIn w0 wr rs os s3 s4) : RdIn w0 wr os rs s4 s3 := ⟨h.o, h.r, fun b h1 h2 => h.ne b h2 h1, h.keep⟩
theorem RdIn.app (h : RdIn w0 wr rs os s3 s4) (r : OwnS w0.heap.size wx 25 4 v ((rs ++ [e]).map evC)) (k : Keep (fun b => b < wr.heap.size ∧ s3.ownBlock ≠ some b) wr wx) (o : ∀ b, v.ownBlock = some b → s3.ownBlock = some b ∨ wr.heap.size ≤ b) : RdIn w0 wx (rs ++ [e]) os v s4 :=
  ⟨r, h.o.keep k (fun b hb => ⟨(h.o.lt hb).2, fun e => h.ne b e hb⟩), fun b hb h4 => by
    rcases o b hb with h1 | h1
    · exact h.ne b h1 h4
    · have := (h.o.lt h4).2; omega, h.keep.trans (k.mono fun b (hb : b < w0.heap.size) => ⟨Nat.lt_of_lt_of_le hb h.keep.size, fun e => by have := (h.r.lt e).1; omega⟩)⟩
/-- a box younger than the rows changes. -/
theorem RdIn.set (h : RdIn w0 wr rs os s3 s4) {E i : Nat} (h3 : s3.ownBlock ≠ some E) (h4 : s4.ownBlock ≠ some E) (h0 : w0.heap.size ≤ E) (x : Value) : RdIn w0 (wr.setCell ⟨E, i, none⟩ x) rs os s3 s4 := by
  have k : Keep (fun b => b ≠ E) wr (wr.setCell ⟨E, i, none⟩ x) := (Keep.refl _ _).setCell _ (by simp)
  exact ⟨h.r.keep k (fun b hb e => h3 (e ▸ hb)), h.o.keep k (fun b hb e => h4 (e ▸ hb)), h.ne, h.keep.trans (k.mono fun b (hb : b < w0.heap.size) => by omega)⟩
end

set_option maxRecDepth 100000 in
set_option maxHeartbeats 8000000 in
theorem orderReads_walk (v : Value) (l : List Ev) (ea : Addr) (w : World) (hin : ∀ e ∈ l, Ev.inRange e) (he1 : ErrAt w 0 ea) (hv : EvsAt w (fun _ => True) v l) :
    Calls Tryd.prog 5 #[v] w fun e w' => e = .returned (.bool true) ∧ Keep (· < w.heap.size) w w' := by
  have HE := hid he1
  have HV := hid (hv.lt.mono (q := fun b => b < w.heap.size) (fun _ h => h.1))
  have HIN := hid hin
  obtain ⟨va, vc, rfl, hc1, hc2⟩ := hv.form
  clear hin he1 hv
  go_enter Tryd.func5, Tryd.ntmps5
  go_wp2_with fail
  refine (alive18_walk w _ HE.out.cell HE.out.lt).mono ?_
  rintro e w1 ⟨rfl, k1⟩
  have K1 := hid k1
  clear k1
  by_cases h200 : 200 < l.length
  · have d1 : decide ((200 : Int) < (l.length : Int)) = true := by simp; omega
    have d2 : decide (200 < l.length) = true := by simp; omega
    go_wp2_with fail
    go_ret
    exact ⟨rfl, K1.out⟩
  · have d1 : decide ((200 : Int) < (l.length : Int)) = false := by simp; omega
    have d2 : decide (200 < l.length) = false := by simp; omega
    have HF := hid (oform_walk l (.slice va l.length vc) w1 _ (HV.out.keep K1.out (fun _ h => h)))
    have hlen : l.length ≤ 200 := by omega
    clear h200
    cases hok : l.all Ev.ok
    · rw [hok] at HF
      have HO := hid hok
      clear hok
      go_wp2_with fail
      refine HF.out.mono ?_
      rintro e w2 ⟨rfl, k2⟩
      have K2 := hid (K1.out.trans (k2.mono fun b hb => Nat.lt_of_lt_of_le hb K1.out.size))
      clear k2
      go_wp2_with fail
      go_ret
      exact ⟨rfl, K2.out⟩
    · rw [hok] at HF
      have HO := hid hok
      clear hok
      go_wp2_with fail
      refine HF.out.mono ?_
      rintro e w2 ⟨rfl, k2⟩
      have K2 := hid (K1.out.trans (k2.mono fun b hb => Nat.lt_of_lt_of_le hb K1.out.size))
      clear k2
      go_wp2_with fail
      obtain ⟨R, hR⟩ : ∃ R, w2.heap.size = R := ⟨_, rfl⟩
      refine wp_world (fun w3 => RdIn w2 w3 [] [] (.slice (some ⟨w2.heap.size, 0, none⟩) 0 0) (.slice (some ⟨w2.heap.size + 1, 0, none⟩) 0 0)) ?_ ?_
      · have k01 : Keep (· < w2.heap.size + 1) (w2.alloc (.cells #[] 25)) ((w2.alloc (.cells #[] 25)).alloc (.cells #[] 25)) := (Keep.refl _ _).alloc _ (fun _ h => by rw [World.size_alloc]; exact h)
        refine ⟨OwnS_empty ((k01.block w2.heap.size (by omega)).trans (heap_alloc_new w2 _)) (Nat.le_refl _), OwnS_empty ?_ (by omega), fun b h1 h2 => ?_, ((Keep.refl _ _).alloc _ (fun _ h => h)).trans (k01.mono fun b hb => by omega)⟩
        · have := heap_alloc_new (w2.alloc (.cells #[] 25)) (.cells #[] 25)
          rw [World.size_alloc] at this
          exact this
        · simp [Value.ownBlock] at h1 h2
          omega
      rintro w3 HR3
      have HR3 := hid HR3
      clear hR
      go_loopg [3, 4, 25] l.length (fun k s3 s4 s25 wr => ∃ i : Nat, i + k = l.length ∧ s25 = .int .i64 (i : Int) ∧ RdIn w2 wr ((l.take i).filter readB) ((l.take i).map ownE) s3 s4)
      case atStart => exact ⟨0, by omega, rfl, HR3.out⟩
      case round =>
        obtain ⟨i, hik, rfl, hin⟩ := hrel
        have HA0 := hid hin
        by_cases hlt : i < l.length
        · have l0 : (i : Int) < (l.length : Int) := by omega
          obtain ⟨x, hx⟩ : ∃ x, l[i]? = some x := ⟨_, List.getElem?_eq_getElem hlt⟩
          have hx' : l[i] = x := by rw [List.getElem?_eq_getElem hlt] at hx; exact Option.some.inj hx
          obtain ⟨blk, off, hva, hblk, hrg⟩ := HV.out.get i hlt
          rw [hx'] at hrg
          subst hva
          have RG := hid (show wr.rangeAt blk (off + i * 4) (evC x) from fun j v hv => ((K2.out.trans (hin.keep.mono fun b hb => Nat.lt_of_lt_of_le hb K2.out.size)).cell (x := ⟨blk, off + i * 4 + j, none⟩) hblk).trans (hrg j v hv))
          have HT := hid (And.intro (show (l.take (i + 1)).filter readB = (l.take i).filter readB ++ [x].filter readB by rw [List.take_succ_eq_append_getElem hlt, List.filter_append, hx']) (show (l.take (i + 1)).map ownE = (l.take i).map ownE ++ [x].map ownE by rw [List.take_succ_eq_append_getElem hlt, List.map_append, hx']))
          have osz := ev_size x
          have o1 : (evC x).toArray.all (·.oneCell') = true := by simp [evC, Value.oneCell']
          have HI := hid (And.intro hin hik)
          have hi200 : i ≤ 200 := by omega
          clear hrg hx hx' hik hlt hblk hin
          go_upto_region 9 with (first
            | (refine wpList_load_mid rfl 25 (.tmp 27) rfl blk (off + i * 4) rfl (evC x) _ RG.out Tryd.underlying25 rfl osz ?_)
            | (refine wpList_store_row rfl 25 (.tmp 6) (.tmp 28) rfl wr.heap.size (evC x).toArray rfl rfl 25 _ (heap_alloc_new wr _) (by rw [List.size_toArray]; exact osz) rfl o1 ?_))
          obtain ⟨E, hE⟩ : ∃ E, wr.heap.size = E := ⟨_, rfl⟩
          refine wp_world (fun wa => Keep (· < wr.heap.size) wr wa ∧ wa.heap[wr.heap.size]? = some (.cells (evC x).toArray 25 (0, 0)))
            ⟨((Keep.refl _ _).alloc _ (fun _ h => h)).setRow _ (by simp), heap_setRow (heap_alloc_new wr _) _⟩ ?_
          rintro wa ⟨ka, ra2⟩
          have HA := hid (HI.out.1.next ka)
          have HE0 := hid (show w2.heap.size ≤ E by rw [← hE]; exact HI.out.1.keep.size)
          have HEE := hid (And.intro (hE ▸ ra2) (And.intro (Array.getElem?_eq_some_iff.1 (hE ▸ ra2)).1 (And.intro (show u3.ownBlock ≠ some E from fun e => by have := (HI.out.1.r.lt e).2; omega) (show u4.ownBlock ≠ some E from fun e => by have := (HI.out.1.o.lt e).2; omega))))
          obtain ⟨ra3, n3, rc3, rfl⟩ : ∃ a n c, u3 = .slice a n c := by obtain ⟨a, c, e⟩ := HI.out.1.r.form; exact ⟨a, _, c, e⟩
          obtain ⟨ra4, n4, rc4, rfl⟩ : ∃ a n c, u4 = .slice a n c := by obtain ⟨a, c, e⟩ := HI.out.1.o.form; exact ⟨a, _, c, e⟩
          rw [hE]
          clear ka ra2 hE
          obtain ⟨g, kd, ob, a⟩ := x
          have e0 : wa.cell? ⟨E, 0, none⟩ = some (.int .i64 g) := cell_at HEE.out.1 0
          have e1 : wa.cell? ⟨E, 1, none⟩ = some (.int .i64 kd) := cell_at HEE.out.1 1
          have e2 : wa.cell? ⟨E, 2, none⟩ = some (.int .i64 ob) := cell_at HEE.out.1 2
          have e3 : wa.cell? ⟨E, 3, none⟩ = some (.int .i64 a) := cell_at HEE.out.1 3
          by_cases hk2 : kd = 2
          · subst hk2
            have hk : True := trivial
            have fE : wa.frozen? ⟨E, 2, none⟩ = false := frozen_at HEE.out.1 2
            go_upto_region 13 with fail
            have HS := hid (And.intro ((HA.out).set (i := 2) HEE.out.2.2.1 HEE.out.2.2.2 HE0.out (.int .i64 g)) (set_at (cs := evC ⟨g, 2, ob, a⟩) HEE.out.1 2 (.int .i64 g)))
            obtain ⟨w6, hw6⟩ : ∃ w6, wa.setCell ⟨E, 2, none⟩ (.int .i64 g) = w6 := ⟨_, rfl⟩
            rw [hw6] at HS ⊢
            clear hw6 e0 e1 e2 e3 fE
            have e0 : w6.cell? ⟨E, 0, none⟩ = some (.int .i64 g) := cell_at HS.out.2 0
            have e1 : w6.cell? ⟨E, 1, none⟩ = some (.int .i64 2) := cell_at HS.out.2 1
            have e2 : w6.cell? ⟨E, 2, none⟩ = some (.int .i64 g) := cell_at HS.out.2 2
            have e3 : w6.cell? ⟨E, 3, none⟩ = some (.int .i64 a) := cell_at HS.out.2 3
            have HP7 := hid (fun ty : TypeId => ev_append w2.heap.size (w6.alloc (.cells (evC ⟨g, 2, g, a⟩).toArray 25)) ty _ _ ⟨g, 2, g, a⟩ ⟨w6.heap.size, 0, none⟩ ((HS.out.1.o).keep (q := fun b => b < w6.heap.size) ((Keep.refl _ _).alloc _ (fun _ h => h)) (fun b hb => ((HS.out.1.o).lt hb).2)) (fun q y hq => by rw [addr_add, Nat.zero_add, cell_at (heap_alloc_new w6 (.cells (evC ⟨g, 2, g, a⟩).toArray 25)), hq]) (by rw [List.length_map, List.length_take]; omega) (by rw [World.size_alloc]; have := HS.out.1.keep.size; omega))
            go_wp2_with (at_builtin; refine wpList_app rfl (.tmp 47) (.tmp 49) 22 22 rfl _ (HP7.out _) ?_; rintro v7 w7 ⟨r, k, o⟩; have H7 := hid (And.intro r (And.intro k o)); clear r k o)
            have HB7 := hid ((((HS.out.1).swap.next ((Keep.refl _ _).alloc (.cells (evC ⟨g, 2, g, a⟩).toArray 25) (fun _ h => h))).app H7.out.1 H7.out.2.1 H7.out.2.2).swap)
            go_roundg (gk - 1)
            case measure => have := HI.out.2; omega
            case rel => exact ⟨i + 1, by have := HI.out.2; omega, by go_num, by rw [HT.out.1, HT.out.2]; simpa [readB, ownE, hk] using HB7.out⟩
          · have q2 : (kd != 2) = true := by simp [hk2]
            have q3 : (kd == 2) = false := by simp [hk2]
            by_cases hk1 : kd = 1
            · subst hk1
              have hk : True := trivial
              have HP5 := hid (fun ty : TypeId => ev_append w2.heap.size (wa.alloc (.cells (evC ⟨g, 1, ob, a⟩).toArray 25)) ty _ _ ⟨g, 1, ob, a⟩ ⟨wa.heap.size, 0, none⟩ ((HA.out.r).keep (q := fun b => b < wa.heap.size) ((Keep.refl _ _).alloc _ (fun _ h => h)) (fun b hb => ((HA.out.r).lt hb).2)) (fun q y hq => by rw [addr_add, Nat.zero_add, cell_at (heap_alloc_new wa (.cells (evC ⟨g, 1, ob, a⟩).toArray 25)), hq]) (by have := List.length_filter_le readB (l.take i); rw [List.length_take] at this; omega) (by rw [World.size_alloc]; have := HA.out.keep.size; omega))
              go_upto_region 11 with (at_builtin; refine wpList_app rfl (.tmp 32) (.tmp 34) 22 22 rfl _ (HP5.out _) ?_; rintro v5 w5 ⟨r, k, o⟩; have H5 := hid (And.intro r (And.intro k o)); clear r k o)
              have HB5 := hid (((HA.out.next ((Keep.refl _ _).alloc (.cells (evC ⟨g, 1, ob, a⟩).toArray 25) (fun _ h => h)))).app H5.out.1 (H5.out.2.1) (H5.out.2.2))
              have k5E := (H5.out.2.1.block E ⟨by rw [World.size_alloc]; have := HEE.out.2.1; omega, HEE.out.2.2.1⟩).trans ((((Keep.refl (· < wa.heap.size) wa).alloc (.cells (evC ⟨g, 1, ob, a⟩).toArray 25) (fun _ h => h)).block E HEE.out.2.1).trans HEE.out.1)
              have HE5 := hid (And.intro k5E (show v5.ownBlock ≠ some E from fun e => (H5.out.2.2 E e).elim HEE.out.2.2.1 (fun h => by rw [World.size_alloc] at h; have := HEE.out.2.1; omega)))
              clear k5E e0 e1 e2 e3
              have e0 : w5.cell? ⟨E, 0, none⟩ = some (.int .i64 g) := cell_at HE5.out.1 0
              have e1 : w5.cell? ⟨E, 1, none⟩ = some (.int .i64 1) := cell_at HE5.out.1 1
              have e2 : w5.cell? ⟨E, 2, none⟩ = some (.int .i64 ob) := cell_at HE5.out.1 2
              have e3 : w5.cell? ⟨E, 3, none⟩ = some (.int .i64 a) := cell_at HE5.out.1 3
              have fE : w5.frozen? ⟨E, 2, none⟩ = false := frozen_at HE5.out.1 2
              go_upto_region 13 with fail
              have HS := hid (And.intro ((HB5.out).set (i := 2) HE5.out.2 HEE.out.2.2.2 HE0.out (.int .i64 g)) (set_at (cs := evC ⟨g, 1, ob, a⟩) HE5.out.1 2 (.int .i64 g)))
              obtain ⟨w6, hw6⟩ : ∃ w6, w5.setCell ⟨E, 2, none⟩ (.int .i64 g) = w6 := ⟨_, rfl⟩
              rw [hw6] at HS ⊢
              clear hw6 e0 e1 e2 e3 fE
              have e0 : w6.cell? ⟨E, 0, none⟩ = some (.int .i64 g) := cell_at HS.out.2 0
              have e1 : w6.cell? ⟨E, 1, none⟩ = some (.int .i64 1) := cell_at HS.out.2 1
              have e2 : w6.cell? ⟨E, 2, none⟩ = some (.int .i64 g) := cell_at HS.out.2 2
              have e3 : w6.cell? ⟨E, 3, none⟩ = some (.int .i64 a) := cell_at HS.out.2 3
              have HP7 := hid (fun ty : TypeId => ev_append w2.heap.size (w6.alloc (.cells (evC ⟨g, 1, g, a⟩).toArray 25)) ty _ _ ⟨g, 1, g, a⟩ ⟨w6.heap.size, 0, none⟩ ((HS.out.1.o).keep (q := fun b => b < w6.heap.size) ((Keep.refl _ _).alloc _ (fun _ h => h)) (fun b hb => ((HS.out.1.o).lt hb).2)) (fun q y hq => by rw [addr_add, Nat.zero_add, cell_at (heap_alloc_new w6 (.cells (evC ⟨g, 1, g, a⟩).toArray 25)), hq]) (by rw [List.length_map, List.length_take]; omega) (by rw [World.size_alloc]; have := HS.out.1.keep.size; omega))
              go_wp2_with (at_builtin; refine wpList_app rfl (.tmp 47) (.tmp 49) 22 22 rfl _ (HP7.out _) ?_; rintro v7 w7 ⟨r, k, o⟩; have H7 := hid (And.intro r (And.intro k o)); clear r k o)
              have HB7 := hid ((((HS.out.1).swap.next ((Keep.refl _ _).alloc (.cells (evC ⟨g, 1, g, a⟩).toArray 25) (fun _ h => h))).app H7.out.1 H7.out.2.1 H7.out.2.2).swap)
              go_roundg (gk - 1)
              case measure => have := HI.out.2; omega
              case rel => exact ⟨i + 1, by have := HI.out.2; omega, by go_num, by rw [HT.out.1, HT.out.2]; simpa [readB, ownE, hk] using HB7.out⟩
            · have q4 : (kd == 1) = false := by simp [hk1]
              have hk : ¬ (kd = 2 ∨ kd = 1) ∧ kd ≠ 2 := by omega
              have HP5 := hid (fun ty : TypeId => ev_append w2.heap.size (wa.alloc (.cells (evC ⟨g, kd, ob, a⟩).toArray 25)) ty _ _ ⟨g, kd, ob, a⟩ ⟨wa.heap.size, 0, none⟩ ((HA.out.r).keep (q := fun b => b < wa.heap.size) ((Keep.refl _ _).alloc _ (fun _ h => h)) (fun b hb => ((HA.out.r).lt hb).2)) (fun q y hq => by rw [addr_add, Nat.zero_add, cell_at (heap_alloc_new wa (.cells (evC ⟨g, kd, ob, a⟩).toArray 25)), hq]) (by have := List.length_filter_le readB (l.take i); rw [List.length_take] at this; omega) (by rw [World.size_alloc]; have := HA.out.keep.size; omega))
              go_upto_region 11 with (at_builtin; refine wpList_app rfl (.tmp 32) (.tmp 34) 22 22 rfl _ (HP5.out _) ?_; rintro v5 w5 ⟨r, k, o⟩; have H5 := hid (And.intro r (And.intro k o)); clear r k o)
              have HB5 := hid (((HA.out.next ((Keep.refl _ _).alloc (.cells (evC ⟨g, kd, ob, a⟩).toArray 25) (fun _ h => h)))).app H5.out.1 (H5.out.2.1) (H5.out.2.2))
              have k5E := (H5.out.2.1.block E ⟨by rw [World.size_alloc]; have := HEE.out.2.1; omega, HEE.out.2.2.1⟩).trans ((((Keep.refl (· < wa.heap.size) wa).alloc (.cells (evC ⟨g, kd, ob, a⟩).toArray 25) (fun _ h => h)).block E HEE.out.2.1).trans HEE.out.1)
              have HE5 := hid (And.intro k5E (show v5.ownBlock ≠ some E from fun e => (H5.out.2.2 E e).elim HEE.out.2.2.1 (fun h => by rw [World.size_alloc] at h; have := HEE.out.2.1; omega)))
              clear k5E e0 e1 e2 e3
              have e0 : w5.cell? ⟨E, 0, none⟩ = some (.int .i64 g) := cell_at HE5.out.1 0
              have e1 : w5.cell? ⟨E, 1, none⟩ = some (.int .i64 kd) := cell_at HE5.out.1 1
              have e2 : w5.cell? ⟨E, 2, none⟩ = some (.int .i64 ob) := cell_at HE5.out.1 2
              have e3 : w5.cell? ⟨E, 3, none⟩ = some (.int .i64 a) := cell_at HE5.out.1 3
              have HP7 := hid (fun ty : TypeId => ev_append w2.heap.size (w5.alloc (.cells (evC ⟨g, kd, ob, a⟩).toArray 25)) ty _ _ ⟨g, kd, ob, a⟩ ⟨w5.heap.size, 0, none⟩ ((HB5.out.o).keep (q := fun b => b < w5.heap.size) ((Keep.refl _ _).alloc _ (fun _ h => h)) (fun b hb => ((HB5.out.o).lt hb).2)) (fun q y hq => by rw [addr_add, Nat.zero_add, cell_at (heap_alloc_new w5 (.cells (evC ⟨g, kd, ob, a⟩).toArray 25)), hq]) (by rw [List.length_map, List.length_take]; omega) (by rw [World.size_alloc]; have := HB5.out.keep.size; omega))
              go_wp2_with (at_builtin; refine wpList_app rfl (.tmp 47) (.tmp 49) 22 22 rfl _ (HP7.out _) ?_; rintro v7 w7 ⟨r, k, o⟩; have H7 := hid (And.intro r (And.intro k o)); clear r k o)
              have HB7 := hid ((((HB5.out).swap.next ((Keep.refl _ _).alloc (.cells (evC ⟨g, kd, ob, a⟩).toArray 25) (fun _ h => h))).app H7.out.1 H7.out.2.1 H7.out.2.2).swap)
              go_roundg (gk - 1)
              case measure => have := HI.out.2; omega
              case rel => exact ⟨i + 1, by have := HI.out.2; omega, by go_num, by rw [HT.out.1, HT.out.2]; simpa [readB, ownE, hk1, hk2] using HB7.out⟩
        · obtain rfl : l.length = i := by omega
          rw [List.take_length] at HA0
          obtain ⟨rs, hrs⟩ : ∃ rs, l.filter readB = rs := ⟨_, rfl⟩
          obtain ⟨os, hos⟩ : ∃ os, l.map ownE = os := ⟨_, rfl⟩
          have hrm : ∀ e ∈ rs, e ∈ l ∧ e.kd ≠ 2 := fun e he => by
            rw [← hrs] at he
            have := List.mem_filter.1 he
            exact ⟨this.1, by simpa [readB] using this.2⟩
          have hom : ∀ e ∈ os, ∃ x ∈ l, e = ownE x := fun e he => by
            rw [← hos] at he
            obtain ⟨x, h1, h2⟩ := List.mem_map.1 he
            exact ⟨x, h1, h2.symm⟩
          have hokl := List.all_eq_true.1 HO.out
          have hr1 : rs.all Ev.ok = true := List.all_eq_true.2 fun e he => hokl e (hrm e he).1
          have ho1 : os.all Ev.ok = true := List.all_eq_true.2 fun e he => by
            obtain ⟨x, h1, rfl⟩ := hom e he
            have := hokl x h1
            unfold ownE
            split
            · next h => simp [Ev.ok] at this ⊢; omega
            · exact this
          have hr2 : ∀ e ∈ rs, (Lit.int .i64 e.obj).wf = true := fun e he => (HIN.out e (hrm e he).1).2.2.1
          have ho2 : ∀ e ∈ os, (Lit.int .i64 e.obj).wf = true := fun e he => by
            obtain ⟨x, h1, rfl⟩ := hom e he
            have := HIN.out x h1
            unfold ownE
            split
            · exact this.1
            · exact this.2.2.1
          have hr3 : rs.length ≤ 200 := by rw [← hrs]; exact Nat.le_trans (List.length_filter_le _ _) hlen
          have ho3 : os.length ≤ 200 := by rw [← hos, List.length_map]; exact hlen
          have hr4 : racesP [] rs = [] := races_reads [] rs fun e he => (hrm e he).2
          have ho4 : racesP [] os = [] := races_owns [] os fun e he hacc => by
            obtain ⟨x, h1, rfl⟩ := hom e he
            unfold ownE at hacc ⊢
            split
            · rfl
            · next h =>
              rw [if_neg h] at hacc
              simp [Ev.acc] at hacc
              omega
          rw [hrs, hos] at HA0
          have HWW := hid (K2.out.trans (HA0.out.keep.mono fun b hb => Nat.lt_of_lt_of_le hb K2.out.size))
          have HEW := HE.out.keep HWW.out HE.out.lt HE.out.blt
          have HR := hid (races_walk [] rs u3 (.slice none 0 0) _ wr _ (fun _ => True) (OwnS_evs HA0.out.r) (Cells.nil _ _) HEW.cell HEW.lt hr1 hr2 hr3 (by intro r hr; cases hr))
          rw [hr4] at HR
          have HS := hid (show ∀ wx : World, Keep (· < wr.heap.size) wr wx → Calls Tryd.prog 10 #[u4, .slice none 0 0] wx fun e w' => ∃ out, e = .returned (.tuple #[out, .nilIface]) ∧ OwnS wx.heap.size w' 56 5 out ((racesP [] os).map rcC) ∧ Keep (· < wx.heap.size) wx w' from fun wx kx =>
            races_walk [] os u4 (.slice none 0 0) _ wx _ (fun _ => True) (OwnS_evs ((HA0.out.next kx).o)) (Cells.nil _ _) (HEW.keep kx HEW.lt HEW.blt).cell (HEW.keep kx HEW.lt HEW.blt).lt ho1 ho2 ho3 (by intro r hr; cases hr))
          rw [ho4] at HS
          obtain ⟨ra3, n3, rc3, rfl⟩ : ∃ a n c, u3 = .slice a n c := by obtain ⟨a, c, e⟩ := HA0.out.r.form; exact ⟨a, _, c, e⟩
          obtain ⟨ra4, n4, rc4, rfl⟩ : ∃ a n c, u4 = .slice a n c := by obtain ⟨a, c, e⟩ := HA0.out.o.form; exact ⟨a, _, c, e⟩
          clear hrm hom hokl hr1 ho1 hr2 ho2 hr3 ho3 hr4 ho4 hrs hos HEW hlt hik hin
          go_wp2_with fail
          refine HR.out.mono ?_
          rintro e w5 ⟨o5, rfl, q5, k5⟩
          obtain ⟨a5, c5, rfl⟩ := q5.form
          have K5 := hid k5
          clear q5 k5
          simp only [List.map_nil, List.length_nil]
          go_wp2_with fail
          refine (HS.out w5 K5.out).mono ?_
          rintro e w6 ⟨o6, rfl, q6, k6⟩
          obtain ⟨a6, c6, rfl⟩ := q6.form
          have K6 := hid (HWW.out.trans ((K5.out.mono fun b hb => Nat.lt_of_lt_of_le hb HWW.out.size).trans (k6.mono fun b hb => Nat.lt_of_lt_of_le hb (Nat.le_trans HWW.out.size K5.out.size))))
          clear q6 k6
          simp only [List.map_nil, List.length_nil]
          go_wp2_with fail
          go_ret
          exact ⟨rfl, K6.out⟩
end Go.Proofs.YtalihehmbiohlaaDoor
