/-
  Step by step: 'Get' of package report, at bytes whose length is what they name. (Under way.)
-/
import Derived.Test.YtnpneippahdigaaDoorRepD
import Derived.Test.YtnpneippahdigaaDoorRepJ
import Derived.Test.YtnpneippahdigaaDoorChunk
import Derived.Test.YtnpneippahdigaaDoorPlanIn
import Derived.Shelf.Abstract
namespace Go.Proofs.Rp
def val (b : List Nat) (i k : Nat) : Int := Wr.i64 (Drw.num8 ((b.drop i).take k))
def raceOf (b : List Nat) (o : Nat) : Race := ⟨val b o 2, val b (o + 2) 4, val b (o + 6) 4, decide (b.getD (o + 10) 0 % 2 = 1), decide (b.getD (o + 10) 0 / 2 % 2 = 1)⟩
def headOf (b : List Nat) (l : List Race) : Rep := ⟨val b 0 1, val b 1 1, val b 2 1, val b 3 8, val b 11 4, val b 15 4, l⟩
/-- the races of pieces. -/
def racesAt (N : Nat) (b : List Nat) (l : List Nat) : List Race := l.map fun i => raceOf b (21 + 11 * (i % N))
/-- the flags of pieces are at most 3. -/
def flagsOk (N : Nat) (b : List Nat) (l : List Nat) : Bool := l.all fun i => decide (b.getD (21 + 11 * (i % N) + 10) 0 ≤ 3)
end Go.Proofs.Rp
namespace Go.Proofs.YtnpneippahdigaaDoor
open Go.RowKit Go.Shelf Go.Proofs.Mem Go.Proofs.Txt

attribute [local go_sem] Oper.semAt_some

theorem keepsOthers_setRow {w : World} {b : Nat} {cur : Array Value} {T : TypeId} {fr : Nat × Nat} (h : w.heap[b]? = some (.cells cur T fr)) (cs : Array Value) : KeepsOthers w (w.setRow b cs) := by
  refine ⟨by simp, fun k o hk ho => ?_⟩
  by_cases e : k = b
  · subst e; rw [h] at hk; cases hk; cases ho
  · rw [setRow_other w b k cs e]; exact hk
/-- what is read of bytes whose length is what they name. -/
def getRep (b : List Nat) : Option Rp.Rep :=
  if Rp.flagsOk (cntOf b) b (List.range (cntOf b)) && Rp.ok (Rp.headOf b (Rp.racesAt (cntOf b) b (List.range (cntOf b)))) then some (Rp.headOf b (Rp.racesAt (cntOf b) b (List.range (cntOf b)))) else none
def GotRep (o : Option Rp.Rep) (ev : Value) (w : World) (e : Ending) (w' : World) : Prop :=
  Keep (· < w.heap.size) w w' ∧ match o with
    | none => e = .returned (.tuple #[.agg (rpC noRep (.slice none 0 0)).toArray, ev])
    | some r => ∃ v, e = .returned (.tuple #[.agg (rpC r v).toArray, .nilIface]) ∧ RacesAt w' (fun b => w.heap.size ≤ b) v r.races
/-- at the head of a round. -/
def GetI (w1 : World) (B X N : Nat) (b : List Nat) (s : List Nat) (W : World) : Prop :=
  ∃ rv, W.heap[X]? = some (.cells (rpC (Rp.headOf b []) rv).toArray 26 (0, 0)) ∧ OwnRaces B W rv (Rp.racesAt N b s) ∧ Keep (· < w1.heap.size) w1 W ∧ Rp.flagsOk N b s = true ∧ B ≤ W.heap.size
theorem getI_own {w1 : World} {B X N : Nat} {b : List Nat} (h1 : w1.heap.size ≤ X) (hB : X < B) : OwnFrom B (GetI w1 B X N b) := by
  rintro s W W' row ⟨rv, hX, hr, hk, hf, hs⟩ hg hrow
  refine ⟨rv, cells_grown hX hg (fun r e => (hrow r e).2), hr.grown hg (fun k hk e => ?_), hk.grown hg (fun k hk' => ⟨Nat.lt_of_lt_of_le hk' hk.size, fun e => by have := (hrow k e.symm).1; omega⟩), hf, Nat.le_trans hs hg.size⟩
  obtain ⟨o, ho, hc⟩ := (hrow k e).2
  rw [hr.isCells hk ho] at hc
  cases hc
/-- a round has found a flag above 3. -/
def GetX (w : World) (N : Nat) (b : List Nat) (ev : Value) (c : Code) (s : List Nat) (W : World) : Prop :=
  c = .ret ∧ Keep (· < w.heap.size) w W ∧ W.heap[w.heap.size]? = some (.cells (rpC noRep (.slice none 0 0)).toArray 26 (0, 0)) ∧ W.heap[w.heap.size + 1]? = some (.cells #[ev] 30 (0, 0)) ∧ ∃ i, i < N ∧ 3 < b.getD (21 + 11 * i + 10) 0
theorem getX_own {w : World} {B N : Nat} {b : List Nat} {ev : Value} (h1 : w.heap.size + 1 < B) (c : Code) : OwnFrom B (GetX w N b ev c) := by
  rintro s W W' row ⟨hc, hk, hR, hE, hi⟩ hg hrow
  exact ⟨hc, hk.grown hg (fun k hk' => ⟨Nat.lt_of_lt_of_le hk' hk.size, fun e => by have := (hrow k e.symm).1; omega⟩), cells_grown hR hg (fun r e => (hrow r e).2), cells_grown hE hg (fun r e => (hrow r e).2), hi⟩

theorem keep_put_ne (W : World) (l : Nat) (o : Obj) : Keep (fun k => k < W.heap.size ∧ k ≠ l) W (W.putObj l o) :=
  (Keep.refl _ _).grown (grownBy_putObj' W l o) (fun k hk => ⟨hk.1, fun e => hk.2 (by injection e)⟩)
/-- Get returns behind its loop, or out of it. -/
theorem get_fin {tmps : Array Value} {B D : Nat} {W : World} {cs : List Value} {ev : Value} {R : Ending → World → Prop} (h2 : tmps.getD 2 undef = .pointer (some ⟨B, 0, none⟩)) (h3 : tmps.getD 3 undef = .pointer (some ⟨B + 1, 0, none⟩)) (hR : W.heap[B]? = some (.cells cs.toArray 26 (0, 0))) (hE : W.heap[B + 1]? = some (.cells #[ev] 30 (0, 0)))
    (hD : W.heap[D]? = some (.deferred (some []))) (hs : (Tryd.prog.info? 26).map (·.size) = some cs.length) (h : R (.returned (.tuple #[.agg cs.toArray, ev])) (W.putObj D (.deferred none))) :
    bodyPostM Fence.wide 9 Tryd.prog Tryd.f20 R .ret { tmps := tmps, defers := [{ target := .collected D, args := #[] }] } W := by
  have k := keep_put_ne W D (.deferred none)
  have b1 := (k.block B ⟨(Array.getElem?_eq_some_iff.1 hR).1, fun e => by subst e; rw [hR] at hD; cases hD⟩).trans hR
  have b2 := (k.block (B + 1) ⟨(Array.getElem?_eq_some_iff.1 hE).1, fun e => by rw [e, hD] at hE; cases hE⟩).trans hE
  exact marks_ret1 hD (results_two rfl _ _ ⟨B, 0, none⟩ ⟨B + 1, 0, none⟩ _ _ h2 h3 (run_loadVar_row _ B _ 26 _ _ _ b1 Tryd.underlying26 rfl (by rw [List.size_toArray]; exact hs)) (load_err _ _ _ (cell_at (cs := [ev]) b2 0))) h

theorem slice21_run (blk off n c : Nat) (h1 : 21 ≤ n) (h2 : n ≤ c) (w : World) : (Instr.sliceAt 32 (.slice (some ⟨blk, off, none⟩) n c) (some (.int .i64 21)) none none).run Tryd.prog w = .ok (.slice (some ⟨blk, if c = 21 then off else off + 21, none⟩) (n - 21) (c - 21)) w := by
  obtain ⟨i, hi, hs⟩ : ∃ i, Tryd.prog.info? 5 = some i ∧ i.size = 1 := by
    have h : (Tryd.prog.info? 5).map (·.size) = some 1 := by kernel_rfl
    cases hq : Tryd.prog.info? 5 with
    | none => simp [hq] at h
    | some i => exact ⟨i, rfl, by simpa [hq] using h⟩
  have hk : (21 : Int) ≤ (n : Int) := by omega
  have hnc : (n : Int) ≤ (c : Int) := by omega
  by_cases hc : c = 21
  · subst hc
    obtain rfl : n = 21 := by omega
    simp [Instr.sliceAt, Instr.slice, run_underlying Tryd.underlying32, Instr.sliceBounds, Instr.sliceBound, asIntOf, sizeOf, typeInfo, hi, hs]
  · simp [Instr.sliceAt, Instr.slice, run_underlying Tryd.underlying32, Instr.sliceBounds, Instr.sliceBound, asIntOf, hk, sizeOf, typeInfo, hi, hs, hc, h1, addr_add]
/-- x[k:] at a number, its run told. -/
theorem wpList_slice_told {P : Program} {ops : Array Oper} {rest : List Oper} {o : Oper} {a : Act} {w : World} {Q : Exit → Act → World → Prop} (hgd : o.guard = none) (t : TypeId) (x : Operand) (l : Value) (ho : o.op = .slice t x (some (.const l)) none none) (v : Value)
    (hr : (Instr.sliceAt t (a.eval x) (some l) none none).run P w = .ok v w) (h : wpList P ops Q rest (a.put o.dst v) w) : wpList P ops Q (o :: rest) a w := by
  refine wpList_plain hgd fun K hK => ?_
  unfold Oper.wp execOp
  have e : a.eval (.const l) = l := rfl
  simp only [ho, Sem.run_bind, Option.map, e, hr]
  exact hK _ _ h

set_option maxRecDepth 100000 in
set_option maxHeartbeats 4000000 in
theorem rpget_walk (v : Value) (b : List Nat) (q : Addr) (w : World) (p : Nat → Prop) (hx : ∀ x ∈ b, x < 256) (hv : Cells w p v (ints .u8 b)) (hc1 : 21 ≤ b.length) (hlen : b.length = 21 + 11 * cntOf b) (he : w.cell? ⟨2, 0, none⟩ = some (.iface 217 (.pointer (some q)))) (hl : 2 < w.heap.size) :
    Calls Tryd.prog 20 #[v] w (GotRep (getRep b) (.iface 217 (.pointer (some q))) w) := by
  have HE := hid he
  have HX := hid hx
  have HV := hid (hv.lt.mono (q := fun b => b < w.heap.size) (fun _ h => h.1))
  clear he hx hv
  obtain ⟨blk, off, c, rfl, hnc, hcm, hblk, hcell⟩ := HV.out.open_ (by omega)
  have hcn := cntOf_le b HX.out hc1
  obtain ⟨n, hn⟩ : ∃ n, b.length = n := ⟨_, rfl⟩
  have HC := hid (And.intro hcell hn)
  obtain ⟨m, hm⟩ : ∃ m, cntOf b = m := ⟨_, rfl⟩
  have HM := hid hm
  rw [hn] at hc1 hlen hnc HV ⊢
  rw [hm] at hlen hcn
  have hm0 : (m : Int) ≤ 65535 := by omega
  have t1 : decide ((n : Int) < 21) = false := by simp; omega
  have t2 : ((n : Int) != 21 + 11 * (m : Int)) = false := by simp; omega
  have c1 : (21 : Int) ≤ (c : Int) := by omega
  have hm1 : (11 : Int) * (m : Int) ≤ 9223372036854775807 := by omega
  have hm2 : (-9223372036854775808 : Int) ≤ 11 * (m : Int) := by omega
  have GETS := hid (show ∀ (w0 : World) (i k c' : Nat), Keep (· < w.heap.size) w w0 → i + k ≤ n → k ≤ c' → c' ≤ 9223372036854775807 → Calls Tryd.prog 62 #[.slice (some ⟨blk, off + i, none⟩) k c'] w0 fun e w' => e = .returned (.int .i64 (Rp.val b i k)) ∧ w0 = w' from fun w0 i k c' k0 hik hkc hcc => by
    have h8 := cells_sub (w := w0) (p := fun _ => True) (blk := blk) (off := off) (cs := ints .u8 b) trivial (fun i hi => (k0.cell (x := ⟨blk, off + i, none⟩) hblk).trans (HC.out.1 i hi)) i k c' (by rw [ints_length, HC.out.2]; omega) hkc hcc
    rw [ints_drop, ints_take] at h8
    exact rget_walk _ _ w0 _ (fun x hx => HX.out x (List.mem_of_mem_drop (List.mem_of_mem_take hx))) h8)
  have hvm : Rp.val b 19 2 = (m : Int) := by
    unfold Rp.val
    rw [show Drw.num8 ((b.drop 19).take 2) = m from HM.out, Wr.i64_small _ (by omega)]
  have G19 := hid (show ∀ w0 : World, Keep (· < w.heap.size) w w0 → Calls Tryd.prog 62 #[.slice (some ⟨blk, off + 19, none⟩) 2 (c - 19)] w0 fun e w' => e = .returned (.int .i64 (m : Int)) ∧ w0 = w' from fun w0 k0 => by
    have := GETS.out w0 19 2 (c - 19) k0 (by omega) (by omega) (by omega)
    rwa [hvm] at this)
  have HLEN := hid hlen
  clear hn hcell hm hlen hcn hvm
  refine calls_of_marks Tryd.func20 rfl ?_
  simp only [Tryd.ntmps20, List.size_toArray, List.length_cons, List.length_nil, Nat.reduceAdd, Nat.reduceSub, Array.replicate_succ, Array.replicate_zero, List.push_toArray, List.append_toArray, List.nil_append, List.cons_append]
  go_wp2_with fail
  refine (G19.out _ (two_allocs w _ _)).mono ?_
  rintro e w1 ⟨rfl, rfl⟩
  clear hm1 hm2
  go_upto_region 3 with fail
  refine wp_world (fun w1 => Keep (· < w.heap.size) w w1 ∧ w1.heap[w.heap.size]? = some (.cells (rpC noRep (.slice none 0 0)).toArray 26 (0, 0)) ∧ w1.heap[w.heap.size + 1]? = some (.cells #[.nilIface] 30 (0, 0)) ∧ w.heap.size + 1 < w1.heap.size) ⟨two_allocs w _ _, two_heap w _ _, heap_alloc2_new w _ _, by simp⟩ ?_
  rintro w1 ⟨k1, R1, E1, z1⟩
  have H1 := hid (And.intro k1 (And.intro R1 (And.intro E1 z1)))
  clear k1 R1 E1 z1 t1 t2
  have d1 : (1 : Int) ≤ (c : Int) := by omega
  have d2 : (2 : Int) ≤ (c : Int) := by omega
  have d3 : (3 : Int) ≤ (c : Int) := by omega
  have d11 : (11 : Int) ≤ (c : Int) := by omega
  have d15 : (15 : Int) ≤ (c : Int) := by omega
  have d19 : (19 : Int) ≤ (c : Int) := by omega
  have KE := hid H1.out.1
  have n1 : ¬ c = 1 := by omega
  have n2 : ¬ c = 2 := by omega
  have n3 : ¬ c = 3 := by omega
  have n11 : ¬ c = 11 := by omega
  have n15 : ¬ c = 15 := by omega
  have n19 : ¬ c = 19 := by omega
  refine wp_region_plan [true, true, false, true, true, false, true, true, false, true, true, false, true, true, false, false, true, true, false, false, false, false] (.free 0 (.free 1 (.free 3 (.free 4 (.free 6 (.free 7 (.free 9 (.free 10 (.free 12 (.free 13 (.free 16 (.free 17 (.pool [2, 5, 8, 11, 14, 15, 18, 19, 20] (.last 21))))))))))))))
    (fun wx => Keep (· < w1.heap.size) w1 wx) (by kernel_rfl) (by kernel_rfl) (Keep.refl _ _).drew ?_
  iterate 12 (refine plan_free rfl rfl (fun K hK => ?_); go_simp; refine hK _ ?_; clear hK K)
  refine plan_pool _ (fun i => if i = 20 then 4 else 22 + i) [2, 5, 8, 11, 14, 15, 18, 19, 20] [20] (fun i => if i = 2 then Fact.is _ (.int .i64 (Rp.val b 0 1)) else if i = 5 then Fact.is _ (.int .i64 (Rp.val b 1 1)) else if i = 8 then Fact.is _ (.int .i64 (Rp.val b 2 1)) else if i = 11 then Fact.is _ (.int .i64 (Rp.val b 3 8)) else if i = 14 then Fact.is _ (.int .i64 (Rp.val b 11 4)) else if i = 18 then Fact.is _ (.int .i64 (Rp.val b 15 4)) else if i = 15 then Fact.is _ (.agg (endC (Rp.val b 0 1) (Rp.val b 1 1) (Rp.val b 2 1) (Rp.val b 3 8) (Rp.val b 11 4)).toArray) else if i = 19 then Fact.is _ (.agg (rpC (Rp.headOf b []) (.slice none 0 0)).toArray) else Fact.blockOf _ (fun x => .pointer (some ⟨x, 0, none⟩)) (fun _ => rfl) (rpC noRep (.slice none 0 0)) 26) (fun _ => []) (fun i => if i = 15 then [2, 5, 8, 11, 14] else if i = 19 then [15, 18] else []) (by kernel_rfl) ⟨rfl, rfl, rfl, rfl, rfl, rfl, rfl, rfl, rfl⟩ rfl (fun wx hx => (Keep.refl _ _).drew.trans hx) ⟨?o2, ?o5, ?o8, ?o11, ?o14, ?o15, ?o18, ?o19, ?o20⟩ ?oe
  case o2 =>
    intro vs wx hk _ K hK
    refine pool_op rfl rfl ?_
    have hK' := hK (.int .i64 (Rp.val b 0 1)) wx (pool_is (Keep.refl _ _))
    clear hK
    revert hK'
    simp only [putAll, ↓reduceIte, Nat.reduceEqDiff, List.filter, List.contains, List.elem, List.foldl]
    intro hK'
    go_simp
    refine (GETS.out wx 0 1 (c) (KE.out.trans (((Keep.refl (· < w1.heap.size) w1).drew.trans hk).mono (fun b h => Nat.lt_of_lt_of_le h KE.out.size))) (by omega) (by omega) (by omega)).mono ?_
    rintro e w2 ⟨rfl, rfl⟩
    exact hK'
  case o5 =>
    intro vs wx hk _ K hK
    refine pool_op rfl rfl ?_
    have hK' := hK (.int .i64 (Rp.val b 1 1)) wx (pool_is (Keep.refl _ _))
    clear hK
    revert hK'
    simp only [putAll, ↓reduceIte, Nat.reduceEqDiff, List.filter, List.contains, List.elem, List.foldl]
    intro hK'
    go_simp
    refine (GETS.out wx 1 1 (c - 1) (KE.out.trans (((Keep.refl (· < w1.heap.size) w1).drew.trans hk).mono (fun b h => Nat.lt_of_lt_of_le h KE.out.size))) (by omega) (by omega) (by omega)).mono ?_
    rintro e w2 ⟨rfl, rfl⟩
    exact hK'
  case o8 =>
    intro vs wx hk _ K hK
    refine pool_op rfl rfl ?_
    have hK' := hK (.int .i64 (Rp.val b 2 1)) wx (pool_is (Keep.refl _ _))
    clear hK
    revert hK'
    simp only [putAll, ↓reduceIte, Nat.reduceEqDiff, List.filter, List.contains, List.elem, List.foldl]
    intro hK'
    go_simp
    refine (GETS.out wx 2 1 (c - 2) (KE.out.trans (((Keep.refl (· < w1.heap.size) w1).drew.trans hk).mono (fun b h => Nat.lt_of_lt_of_le h KE.out.size))) (by omega) (by omega) (by omega)).mono ?_
    rintro e w2 ⟨rfl, rfl⟩
    exact hK'
  case o11 =>
    intro vs wx hk _ K hK
    refine pool_op rfl rfl ?_
    have hK' := hK (.int .i64 (Rp.val b 3 8)) wx (pool_is (Keep.refl _ _))
    clear hK
    revert hK'
    simp only [putAll, ↓reduceIte, Nat.reduceEqDiff, List.filter, List.contains, List.elem, List.foldl]
    intro hK'
    go_simp
    refine (GETS.out wx 3 8 (c - 3) (KE.out.trans (((Keep.refl (· < w1.heap.size) w1).drew.trans hk).mono (fun b h => Nat.lt_of_lt_of_le h KE.out.size))) (by omega) (by omega) (by omega)).mono ?_
    rintro e w2 ⟨rfl, rfl⟩
    exact hK'
  case o14 =>
    intro vs wx hk _ K hK
    refine pool_op rfl rfl ?_
    have hK' := hK (.int .i64 (Rp.val b 11 4)) wx (pool_is (Keep.refl _ _))
    clear hK
    revert hK'
    simp only [putAll, ↓reduceIte, Nat.reduceEqDiff, List.filter, List.contains, List.elem, List.foldl]
    intro hK'
    go_simp
    refine (GETS.out wx 11 4 (c - 11) (KE.out.trans (((Keep.refl (· < w1.heap.size) w1).drew.trans hk).mono (fun b h => Nat.lt_of_lt_of_le h KE.out.size))) (by omega) (by omega) (by omega)).mono ?_
    rintro e w2 ⟨rfl, rfl⟩
    exact hK'
  case o15 =>
    intro vs wx hk h K hK
    obtain ⟨e2, e5, e8, e11, e14⟩ := h
    have e2 : vs 2 = .int .i64 (Rp.val b 0 1) := e2
    have e5 : vs 5 = .int .i64 (Rp.val b 1 1) := e5
    have e8 : vs 8 = .int .i64 (Rp.val b 2 1) := e8
    have e11 : vs 11 = .int .i64 (Rp.val b 3 8) := e11
    have e14 : vs 14 = .int .i64 (Rp.val b 11 4) := e14
    refine pool_op rfl rfl ?_
    have hK' := hK _ wx (pool_is (Keep.refl _ _))
    clear hK
    revert hK'
    simp only [putAll, ↓reduceIte, Nat.reduceEqDiff, List.filter, List.contains, List.elem, Nat.reduceBEq, beq_self_eq_true, List.foldl]
    rw [e2, e5, e8, e11, e14]
    intro hK'
    go_simp
    exact hK'
  case o18 =>
    intro vs wx hk _ K hK
    refine pool_op rfl rfl ?_
    have hK' := hK (.int .i64 (Rp.val b 15 4)) wx (pool_is (Keep.refl _ _))
    clear hK
    revert hK'
    simp only [putAll, ↓reduceIte, Nat.reduceEqDiff, List.filter, List.contains, List.elem, List.foldl]
    intro hK'
    go_simp
    refine (GETS.out wx 15 4 (c - 15) (KE.out.trans (((Keep.refl (· < w1.heap.size) w1).drew.trans hk).mono (fun b h => Nat.lt_of_lt_of_le h KE.out.size))) (by omega) (by omega) (by omega)).mono ?_
    rintro e w2 ⟨rfl, rfl⟩
    exact hK'
  case o19 =>
    intro vs wx hk h K hK
    obtain ⟨e15, e18⟩ := h
    have e15 : vs 15 = .agg (endC (Rp.val b 0 1) (Rp.val b 1 1) (Rp.val b 2 1) (Rp.val b 3 8) (Rp.val b 11 4)).toArray := e15
    have e18 : vs 18 = .int .i64 (Rp.val b 15 4) := e18
    refine pool_op rfl rfl ?_
    have hK' := hK _ wx (pool_is (Keep.refl _ _))
    clear hK
    revert hK'
    simp only [putAll, ↓reduceIte, Nat.reduceEqDiff, List.filter, List.contains, List.elem, Nat.reduceBEq, beq_self_eq_true, List.foldl]
    rw [e15, e18]
    intro hK'
    go_simp
    exact hK'
  case o20 =>
    intro vs wx hk _ K hK
    refine pool_op rfl rfl ?_
    simp only [putAll, List.filter, List.contains]
    go_simp
    exact hK _ _ ⟨⟨_, rfl, hk.size, heap_alloc_new wx _⟩, ((Keep.refl _ _).alloc _ (fun _ h => h)).mono (fun b h => h.1), fun _ b hb => .inl (by injection hb with hb; exact Nat.le_of_eq hb)⟩
  case oe =>
    intro vs w2 k2 hT hD
    obtain ⟨e2, e5, e8, e11, e14, e15, e18, f19, ⟨X, f20, hX, bX⟩⟩ := hT
    have e19 : vs 19 = .agg (rpC (Rp.headOf b []) (.slice none 0 0)).toArray := f19
    have e20 : vs 20 = .pointer (some ⟨X, 0, none⟩) := f20
    have hX : w1.heap.size ≤ X := hX
    clear hD f19 f20 e2 e5 e8 e11 e14 e15 e18
    simp only [putAll, List.foldl, ↓reduceIte, Nat.reduceEqDiff, Nat.reduceAdd]
    rw [e19, e20]
    go_simp
    have hi := rp_size (Rp.headOf b []) (.slice none 0 0)
    have h1 := rp_one (Rp.headOf b []) none 0 0
    refine plan_last rfl rfl (fun K hK => ?_)
    refine wp_store_row 26 (.tmp 4) (.tmp 41) rfl X (rpC (Rp.headOf b []) (.slice none 0 0)).toArray rfl rfl 26 _ bX hi rfl h1 ?_
    refine hK _ _ ?_
    clear hK K
    have R2 := heap_setRow bX (rpC (Rp.headOf b []) (.slice none 0 0)).toArray
    have k3 : Keep (· < w1.heap.size) w1 (w2.setRow X (rpC (Rp.headOf b []) (.slice none 0 0)).toArray) := ((Keep.refl _ _).drew.trans k2).setRow _ (by omega)
    have HS := hid (And.intro k3 (And.intro R2 hX))
    clear hi h1 e19 e20 bX R2 k3 hX k2
    go_upto_region 4 with fail
    refine wp_world (fun w3 => Keep (· < w1.heap.size) w1 w3 ∧ w3.heap[X]? = some (.cells (rpC (Rp.headOf b []) (.slice none 0 0)).toArray 26 (0, 0)) ∧ w1.heap.size ≤ X) HS.out ?_
    rintro w3 h3
    have H3 := hid h3
    clear HS h3
    obtain ⟨O, hO, hsl⟩ : ∃ O, (0 < m → O = off + 21) ∧ ∀ w0 : World, (Instr.sliceAt 32 (.slice (some ⟨blk, off, none⟩) n c) (some (.int .i64 21)) none none).run Tryd.prog w0 = .ok (.slice (some ⟨blk, O, none⟩) (n - 21) (c - 21)) w0 :=
      ⟨if c = 21 then off else off + 21, fun h => by rw [if_neg (by have := HLEN.out; omega)], fun w0 => slice21_run blk off n c hc1 hnc w0⟩
    have HO := hid hO
    have HSL := hid hsl
    clear hO hsl
    go_wp2_with (((with_reducible refine wpList_slice_told rfl 32 (.tmp 42) (.int .i64 21) rfl (.slice (some ⟨blk, O, none⟩) (n - 21) (c - 21)) ?hr ?_); case hr => exact HSL.out _))
    refine ((callsIn_wide (n := 9)).1 (chunk_in Fence.wide 9 trivial rfl _ _ _ _)).mono ?_
    rintro e w4 ⟨rfl, rfl⟩
    go_wp2_with fail
    have hs3 : w1.heap.size ≤ w3.heap.size := H3.out.1.size
    have hX3 : X < w3.heap.size := (Array.getElem?_eq_some_iff.1 H3.out.2.1).1
    have hz4 : ∀ A B : Obj, ((w3.alloc A).alloc B).heap.size = w3.heap.size + 2 := fun A B => by simp
    refine (wpIn_wide (n := 10)).1 ?_
    refine wpIn_rangeFunc_ownF (n := 10) (w0 := _) rfl (by decide) (gf := 86) (lb := #[.pointer (some ⟨w3.heap.size, 0, none⟩), .pointer (some ⟨w3.heap.size + 1, 0, none⟩)]) rfl trivial (enters_of Tryd.func86 (by kernel_rfl) rfl)
      (chunk_stops Fence.wide 9 trivial rfl (by decide) w3.heap.size (w3.heap.size + 1) blk O (c - 21) m (n - 21) (by have := HLEN.out; omega) (by omega) (by omega) _ (by simp; omega) (by simp) (cell_at (cs := [_]) (two_heap w3 _ _) 0) (cell_at (cs := [_]) (heap_alloc2_new w3 _ _) 0))
      (fun h k => Keep.trans h k) (fun W l o o' hl h _ _ => keep_putObj (B := w3.heap.size + 2) (by rintro k (rfl | rfl) <;> omega) W l o o' (by rw [hz4] at hl; exact hl) h) (Below.refl _ _) (fun _ => rfl)
      (GetI w1 (w3.heap.size + 2) X m b) (GetX w m b (.iface 217 (.pointer (some q)))) (by rw [hz4]; exact getI_own (B := w3.heap.size + 2) H3.out.2.2 (by omega)) (fun c => by rw [hz4]; exact getX_own (B := w3.heap.size + 2) (by have := H1.out.2.2.2; omega) c)
      ?start _ (fun l x W K hK => by gi_wp2; exact hK) ?body ?done ?stop
    case start =>
      refine ⟨_, (two_allocs w3 _ _).block X hX3 |>.trans H3.out.2.1, OwnRaces.nil _ _, H3.out.1.trans ((two_allocs w3 _ _).mono (fun b h => Nat.lt_of_lt_of_le h hs3)), rfl, by rw [hz4]; exact Nat.le_refl _⟩
    case body =>
      rintro l pre x W ⟨rv, hX, hrow, hk, hfl, hB⟩ hlt
      have hm1 : 0 < m := by omega
      have eO := HO.out hm1
      obtain ⟨i, hi⟩ : ∃ i, x % m = i := ⟨_, rfl⟩
      have him : i < m := by rw [← hi]; exact Nat.mod_lt _ hm1
      subst eO
      have hLEN := HLEN.out
      obtain ⟨o, ho⟩ : ∃ o, off + 21 + 11 * i = o := ⟨_, rfl⟩
      obtain ⟨y, hy⟩ : ∃ y, b.getD (21 + 11 * i + 10) 0 = y := ⟨_, rfl⟩
      have hkw : Keep (· < w.heap.size) w W := KE.out.trans (hk.mono (fun b h => Nat.lt_of_lt_of_le h KE.out.size))
      have cx : W.cell? ⟨blk, o + 10, none⟩ = some (.int .u8 (y : Int)) := by
        rw [(hkw.cell (x := ⟨blk, o + 10, none⟩) hblk), ← ho, show off + 21 + 11 * i + 10 = off + (21 + 11 * i + 10) by omega, HC.out.1 _ (by rw [ints_length, HC.out.2]; omega), ints_get _ _ _ (by rw [HC.out.2]; omega), hy]
      rw [hi, ho]
      have HI := hid hi
      have HFL := hid hfl
      have PIECE := hid (show ∀ (w0 : World) (j k c' : Nat), Keep (· < w.heap.size) w w0 → j + k ≤ 11 → k ≤ c' → c' ≤ 11 → Calls Tryd.prog 62 #[.slice (some ⟨blk, o + j, none⟩) k c'] w0 fun e w' => e = .returned (.int .i64 (Rp.val b (21 + 11 * i + j) k)) ∧ w0 = w' from fun w0 j k c' h0 h1 h2 h3 => by
        have := GETS.out w0 (21 + 11 * i + j) k c' h0 (by omega) h2 (by omega)
        rwa [show off + (21 + 11 * i + j) = o + j by omega] at this)
      obtain ⟨ra, rc, hrf, hrc1, hrc2⟩ := hrow.at_.form
      subst hrf
      clear hi
      by_cases hy3 : 3 < y
      · have t3 : decide ((3 : Int) < (y : Int)) = true := by simp; omega
        have HB := hid (And.intro hX (And.intro hrow (And.intro hk (And.intro hB hlt))))
        have HKW := hid hkw
        have HYY := hid (And.intro hy (And.intro hy3 him))
        clear hX hrow hk hB hfl hlt hkw hy hy3 ho hLEN
        gi_wp2
        have ce : W.cell? ⟨2, 0, none⟩ = some (.iface 217 (.pointer (some q))) := (HKW.out.cell (x := ⟨2, 0, none⟩) hl).trans HE.out
        have hi := rp_size noRep (.slice none 0 0)
        have h1 := rp_one noRep none 0 0
        refine wpIn_region_plan [true, true, false, false] (.free 0 (.free 1 (.one 2 (.last 3)))) (fun wx => wx.cell? ⟨2, 0, none⟩ = some (.iface 217 (.pointer (some q)))) (fun ⟨_, _, h⟩ => h.elim) (by kernel_rfl) (by kernel_rfl) (by kernel_rfl) ce ?_
        clear ce
        refine plan_free rfl rfl (fun K hK => ?_); go_simp; refine hK _ ?_; clear hK K
        refine plan_held (.iface 217 (.pointer (some q))) rfl rfl (fun w0 h0 => by go_simp) (fun K hK => ?_); refine hK _ ?_; clear hK K
        refine plan_one rfl rfl (fun K hK => ?_)
        have R1 : W.heap[w.heap.size]? = some (.cells (rpC noRep (.slice none 0 0)).toArray 26 (0, 0)) := (HB.out.2.2.1.block _ (by have := H1.out.2.2.2; omega)).trans H1.out.2.1
        have E1 : W.heap[w.heap.size + 1]? = some (.cells #[.nilIface] 30 (0, 0)) := (HB.out.2.2.1.block _ H1.out.2.2.2).trans H1.out.2.2.1
        refine wp_store_row 26 (.tmp 2) (.tmp 50) rfl w.heap.size (rpC noRep (.slice none 0 0)).toArray rfl rfl 26 _ (show W.drew.heap[w.heap.size]? = _ from R1) hi rfl h1 ?_
        have k2 := (HKW.out.drewN 1).setRow (b := w.heap.size) (rpC noRep (.slice none 0 0)).toArray (Nat.lt_irrefl _)
        have R2 := heap_setRow (show W.drew.heap[w.heap.size]? = _ from R1) (rpC noRep (.slice none 0 0)).toArray
        refine hK _ _ ⟨(k2.cell (x := ⟨_, 0, none⟩) hl).trans HE.out, ?_⟩
        clear hK K
        have ks : Keep (fun b => b ≠ w.heap.size) W.drew (W.drew.setRow w.heap.size (rpC noRep (.slice none 0 0)).toArray) := (Keep.refl _ _).setRow _ (by simp)
        have E2 : (W.drew.setRow w.heap.size (rpC noRep (.slice none 0 0)).toArray).heap[w.heap.size + 1]? = some (.cells #[.nilIface] 30 (0, 0)) := (ks.block _ (by simp)).trans E1
        have ko := keepsOthers_setRow (show W.drew.heap[w.heap.size]? = _ from R1) (rpC noRep (.slice none 0 0)).toArray
        refine plan_world (fun w2 => Keep (· < w.heap.size) w w2 ∧ w2.heap[w.heap.size]? = some (.cells (rpC noRep (.slice none 0 0)).toArray 26 (0, 0)) ∧ w2.heap[w.heap.size + 1]? = some (.cells #[.nilIface] 30 (0, 0)) ∧ KeepsOthers W w2) ⟨k2, R2, E2, (KeepsOthers.drew W).trans ko⟩ ?_
        rintro w2 ⟨k3, R3, E3, ko3⟩
        have cE : w2.cell? ⟨w.heap.size + 1, 0, none⟩ = some .nilIface := cell_at E3 0
        have fE := frozen_at E3 0
        have H2 := hid (And.intro k3 (And.intro R3 (And.intro E3 ko3)))
        clear k2 R2 E2 k3 R3 E3 ko ko3 ks R1 E1 hi h1
        refine plan_last rfl rfl (fun K hK => ?_); go_simp
        refine hK _ _ ?_
        clear hK K
        gi_wp2
        have k4 := H2.out.1.setCell (x := ⟨w.heap.size + 1, 0, none⟩) (.iface 217 (.pointer (some q))) (by simp)
        have kr : Keep (fun b => b ≠ w.heap.size + 1) w2 (w2.setCell ⟨w.heap.size + 1, 0, none⟩ (.iface 217 (.pointer (some q)))) := (Keep.refl _ _).setCell _ (by simp)
        exact ⟨H2.out.2.2.2.trans (KeepsOthers.setCell _ _ _), rfl, k4, (kr.block w.heap.size (by simp)).trans H2.out.2.1, set_at (cs := [.nilIface]) H2.out.2.2.1 0 _, i, HYY.out.2.2, by rw [HYY.out.1]; exact HYY.out.2.1⟩
      · have t3 : decide ((3 : Int) < (y : Int)) = false := by simp; omega
        have HB := hid (And.intro hX (And.intro hrow (And.intro hk (And.intro hB hlt))))
        have HKW := hid hkw
        have HYY := hid (And.intro hy (And.intro hy3 him))
        clear hX hrow hk hB hfl hlt hkw hy hy3 ho hLEN
        gi_wp2
        have HY4 := hid (show y = 0 ∨ y = 1 ∨ y = 2 ∨ y = 3 by have := HYY.out.2.1; omega)
        obtain ⟨z1, hz1⟩ : ∃ z, decide (y % 2 = 1) = z := ⟨_, rfl⟩
        obtain ⟨z2, hz2⟩ : ∃ z, decide (y / 2 % 2 = 1) = z := ⟨_, rfl⟩
        have HZ := hid (And.intro hz1 hz2)
        clear hz1 hz2
        refine wpIn_region_plan [true, true, true, true, false, true, true, false, true, true, false, true, true, true, true, true, true, true, true, true, true, true, false, false, true, false] (.free 0 (.free 1 (.free 2 (.free 3 (.free 5 (.free 6 (.free 8 (.free 9 (.free 11 (.free 12 (.free 13 (.free 14 (.free 15 (.free 16 (.free 17 (.free 18 (.free 19 (.free 20 (.one 4 (.one 7 (.one 10 (.free 21 (.one 22 (.one 23 (.free 24 (.last 25))))))))))))))))))))))))))
          (fun wx => wx.cell? ⟨X, 6, none⟩ = some (.slice ra (Rp.racesAt m b pre).length rc) ∧ wx.cell? ⟨blk, o + 10, none⟩ = some (.int .u8 (y : Int))) (fun ⟨_, _, h⟩ => h.elim) (by kernel_rfl) (by kernel_rfl) (by kernel_rfl) ⟨cell_at (cs := rpC _ (.slice ra (Rp.racesAt m b pre).length rc)) HB.out.1 6, cx⟩ ?_
        refine plan_free rfl rfl (fun K hK => ?_); go_simp; refine hK _ ?_; clear hK K
        refine plan_held (.slice ra (Rp.racesAt m b pre).length rc) rfl rfl (fun w0 h0 => by have h1 := h0.1; clear h0; go_simp) (fun K hK => ?_); go_simp; refine hK _ ?_; clear hK K
        iterate 8 (refine plan_free rfl rfl (fun K hK => ?_); go_simp; refine hK _ ?_; clear hK K)
        refine plan_held (.int .u8 (y : Int)) rfl rfl (fun w0 h0 => by have h1 := h0.2; clear h0; go_simp) (fun K hK => ?_); go_simp; refine hK _ ?_; clear hK K
        refine plan_held (.int .u8 ((y % 2 : Nat) : Int)) rfl rfl (fun w0 h0 => by clear h0; have hz := HZ.out; rcases HY4.out with rfl | rfl | rfl | rfl <;> (obtain ⟨rfl, rfl⟩ := hz; go_simp; try rfl)) (fun K hK => ?_); go_simp; refine hK _ ?_; clear hK K
        refine plan_held (.bool z1) rfl rfl (fun w0 h0 => by clear h0; have hz := HZ.out; rcases HY4.out with rfl | rfl | rfl | rfl <;> (obtain ⟨rfl, rfl⟩ := hz; go_simp; try rfl)) (fun K hK => ?_); go_simp; refine hK _ ?_; clear hK K
        refine plan_free rfl rfl (fun K hK => ?_); go_simp; refine hK _ ?_; clear hK K
        refine plan_free rfl rfl (fun K hK => ?_); go_simp; refine hK _ ?_; clear hK K
        refine plan_held (.int .u8 (y : Int)) rfl rfl (fun w0 h0 => by have h1 := h0.2; clear h0; go_simp) (fun K hK => ?_); go_simp; refine hK _ ?_; clear hK K
        refine plan_held (.int .u8 ((y / 2 % 2 * 2 : Nat) : Int)) rfl rfl (fun w0 h0 => by clear h0; have hz := HZ.out; rcases HY4.out with rfl | rfl | rfl | rfl <;> (obtain ⟨rfl, rfl⟩ := hz; go_simp; try rfl)) (fun K hK => ?_); go_simp; refine hK _ ?_; clear hK K
        refine plan_held (.bool z2) rfl rfl (fun w0 h0 => by clear h0; have hz := HZ.out; rcases HY4.out with rfl | rfl | rfl | rfl <;> (obtain ⟨rfl, rfl⟩ := hz; go_simp; try rfl)) (fun K hK => ?_); go_simp; refine hK _ ?_; clear hK K
        have KWD : Keep (· < w.heap.size) w W.drew := HKW.out.drew
        have HKD := hid KWD
        have SW := hid (show W.drew.cell? ⟨X, 6, none⟩ = some (.slice ra (Rp.racesAt m b pre).length rc) ∧ W.drew.cell? ⟨blk, o + 10, none⟩ = some (.int .u8 (y : Int)) from ⟨cell_at (cs := rpC _ (.slice ra (Rp.racesAt m b pre).length rc)) HB.out.1 6, cx⟩)
        clear KWD
        refine plan_one rfl rfl (fun K hK => ?_); go_simp
        refine (PIECE.out _ 0 2 _ HKD.out (by omega) (by omega) (by omega)).mono ?_
        rintro e w5 ⟨rfl, rfl⟩
        refine hK _ _ ⟨SW.out, ?_⟩; clear hK K
        refine plan_one rfl rfl (fun K hK => ?_); go_simp
        refine (PIECE.out _ 2 4 _ HKD.out (by omega) (by omega) (by omega)).mono ?_
        rintro e w5 ⟨rfl, rfl⟩
        refine hK _ _ ⟨SW.out, ?_⟩; clear hK K
        refine plan_one rfl rfl (fun K hK => ?_); go_simp
        refine (PIECE.out _ 6 4 _ HKD.out (by omega) (by omega) (by omega)).mono ?_
        rintro e w5 ⟨rfl, rfl⟩
        refine hK _ _ ⟨SW.out, ?_⟩; clear hK K
        refine plan_free rfl rfl (fun K hK => ?_); go_simp; refine hK _ ?_; clear hK K
        refine plan_one rfl rfl (fun K hK => ?_); go_simp
        obtain ⟨rx, hrx⟩ : ∃ rx : Rp.Race, rx = ⟨Rp.val b (21 + 11 * i) 2, Rp.val b (21 + 11 * i + 2) 4, Rp.val b (21 + 11 * i + 6) 4, z1, z2⟩ := ⟨_, rfl⟩
        have erx : #[Value.int .i64 (Rp.val b (21 + 11 * i) 2), .int .i64 (Rp.val b (21 + 11 * i + 2) 4), .int .i64 (Rp.val b (21 + 11 * i + 6) 4), .bool z1, .bool z2] = (rcC rx).toArray := by rw [hrx]; rfl
        have HRX := hid hrx
        clear hrx
        rw [erx]
        have kA : Keep (· < W.heap.size) W (W.alloc (.cells (rcC rx).toArray 114)).drew := ((Keep.refl _ _).alloc _ (fun _ h => h)).drew
        have hX5 := (kA.block X (Array.getElem?_eq_some_iff.1 HB.out.1).1).trans HB.out.1
        refine hK _ _ ⟨⟨cell_at hX5 6, (kA.cell (x := ⟨blk, o + 10, none⟩) (Nat.lt_of_lt_of_le hblk HKW.out.size)).trans cx⟩, ?_⟩; clear hK K
        have hg5 : W.grownBy (W.alloc (.cells (rcC rx).toArray 114)).drew none := let g := World.grownBy_alloc W (.cells (rcC rx).toArray 114) none; ⟨g.os, g.tape, g.output, g.size, g.block⟩
        refine plan_world (fun w5 => Keep (· < W.heap.size) W w5 ∧ w5.heap[W.heap.size]? = some (.cells (rcC rx).toArray 114 (0, 0)) ∧ KeepsOthers W w5 ∧ OwnRaces (w3.heap.size + 2) w5 (.slice ra (Rp.racesAt m b pre).length rc) (Rp.racesAt m b pre) ∧ w5.heap[X]? = some (.cells (rpC (Rp.headOf b []) (.slice ra (Rp.racesAt m b pre).length rc)).toArray 26 (0, 0)))
          ⟨kA, heap_alloc_new W _, (KeepsOthers.alloc W _).trans (KeepsOthers.drew _), HB.out.2.1.grown hg5 (fun k _ e => by cases e), hX5⟩ ?_
        rintro w5 ⟨k5, R5, ko5, or5, X5⟩
        have H5 := hid (And.intro k5 (And.intro ko5 (And.intro or5 X5)))
        have hnew : ∀ j y, (rcC rx)[j]? = some y → w5.cell? ((⟨W.heap.size, 0, none⟩ : Addr).add j) = some y := fun j y hj => by
          rw [addr_add, Nat.zero_add, cell_at R5]; exact hj
        have hl5 : (Rp.racesAt m b pre).length ≤ 1000000 := by
          have := HB.out.2.2.2.2
          simp only [Rp.racesAt, List.length_map]
          omega
        have HAP := hid (fun ty : TypeId => race_append (w3.heap.size + 2) w5 ty _ _ rx _ or5 hnew hl5 (Nat.le_trans HB.out.2.2.2.1 k5.size))
        clear kA hX5 hg5 k5 R5 ko5 or5 X5 hnew hl5
        refine plan_app rfl rfl (.tmp 53) (.tmp 74) 24 24 rfl _ (HAP.out _) ?_
        rintro v6 w6 ⟨or6, hg6⟩
        obtain ⟨r6, c6, hf6, hb6, hd6⟩ := or6.at_.form
        subst hf6
        have hXr : ∀ j, (Value.slice ra (Rp.racesAt m b pre).length rc).ownBlock = some j → j ≠ X := fun j hj e => by
          have := (H5.out.2.2.1.lt hj).1
          omega
        have k6 : Keep (fun k => k < W.heap.size ∧ (Value.slice ra (Rp.racesAt m b pre).length rc).ownBlock ≠ some k) W w6 := (H5.out.1.mono (fun k h => h.1)).trans ((Keep.refl _ _).grown hg6 (fun k h => ⟨Nat.lt_of_lt_of_le h.1 H5.out.1.size, fun e => h.2 e.symm⟩))
        have hXW : X < W.heap.size := (Array.getElem?_eq_some_iff.1 HB.out.1).1
        have X6 := (k6.block X ⟨hXW, fun e => hXr X e rfl⟩).trans HB.out.1
        have c6' : w6.cell? ⟨blk, o + 10, none⟩ = some (.int .u8 (y : Int)) := (k6.cell (x := ⟨blk, o + 10, none⟩) ⟨Nat.lt_of_lt_of_le hblk HKW.out.size, fun e => by
          have h1 : w3.heap.size + 2 ≤ blk := (HB.out.2.1.lt e).1
          have h2 := H3.out.1.size
          have h3 := KE.out.size
          omega⟩).trans cx
        have ko6 : KeepsOthers W w6 := H5.out.2.1.trans (KeepsOthers.of_grownBy hg6 (fun j o ej ho => H5.out.2.2.1.isCells ej ho))
        refine ⟨⟨cell_at X6 6, c6'⟩, ?_⟩
        have H6 := hid (And.intro k6 (And.intro ko6 (And.intro or6 X6)))
        have cX6 : w6.cell? ⟨X, 6, none⟩ = some (.slice ra (Rp.racesAt m b pre).length rc) := cell_at X6 6
        have fX6 := frozen_at X6 6
        clear hg6 hXr k6 X6 c6' ko6 or6
        refine plan_free rfl rfl (fun K hK => ?_); go_simp; refine hK _ ?_; clear hK K
        refine plan_last rfl rfl (fun K hK => ?_); go_simp
        refine hK _ _ ?_; clear hK K
        gi_wp2
        have X7 := set_at (cs := rpC (Rp.headOf b []) (.slice ra (Rp.racesAt m b pre).length rc)) H6.out.2.2.2 6 (.slice r6 ((Rp.racesAt m b pre).length + 1) c6)
        have el : (Rp.racesAt m b pre ++ [rx]).length = (Rp.racesAt m b pre).length + 1 := by simp
        have er : Rp.racesAt m b pre ++ [rx] = Rp.racesAt m b (pre ++ [x]) := by
          rw [HRX.out, ← HZ.out.1, ← HZ.out.2, ← HYY.out.1]
          simp only [Rp.racesAt, List.map_append, List.map_cons, List.map_nil, HI.out, Rp.raceOf]
        have or6 := H6.out.2.2.1
        rw [el, er] at or6
        have z6 := H6.out.1.size
        have hgX : w6.grownBy (w6.setCell ⟨X, 6, none⟩ (.slice r6 ((Rp.racesAt m b pre).length + 1) c6)) (some X) := ⟨rfl, rfl, rfl, by simp [World.setCell], fun k _ hk => Below.heap_setCell _ _ _ k (fun e => hk (by rw [e]))⟩
        have kW : Keep (fun k => k < w3.heap.size + 2 ∧ k ≠ X) W (w6.setCell ⟨X, 6, none⟩ (.slice r6 ((Rp.racesAt m b pre).length + 1) c6)) :=
          (H6.out.1.mono (fun k (h : k < w3.heap.size + 2 ∧ k ≠ X) => ⟨by have := HB.out.2.2.2.1; omega, fun e => by have := (HB.out.2.1.lt e).1; omega⟩)).setCell _ (fun h => h.2 rfl)
        refine ⟨H6.out.2.1.trans (KeepsOthers.setCell _ _ _), kW.mono (by rintro k (rfl | rfl) <;> omega), _, X7, or6.grown hgX (fun k hk e => ?_), HB.out.2.2.1.trans (kW.mono (fun k h => ⟨by omega, by have := H3.out.2.2; omega⟩)), ?_, ?_⟩
        · injection e with e
          have := (or6.lt hk).1
          omega
        · unfold Rp.flagsOk at HFL ⊢
          rw [List.all_append, HFL.out]
          simp only [List.all_cons, List.all_nil, HI.out, Bool.and_true, Bool.true_and, decide_eq_true_eq]
          rw [HYY.out.1]
          have := HYY.out.2.1
          omega
        · have := HB.out.2.2.2.1
          simp [World.setCell]
          omega
    case done =>
      rintro D ys W hD hys ⟨rv, hX, hrow, hk, hfl, hB⟩ hK
      subst hys
      rw [hz4] at hD
      obtain ⟨ra, rc, hrf, hrc1, hrc2⟩ := hrow.at_.form
      subst hrf
      have hkw : Keep (· < w.heap.size) w W := KE.out.trans (hk.mono (fun b h => Nat.lt_of_lt_of_le h KE.out.size))
      have R1 : W.heap[w.heap.size]? = some (.cells (rpC noRep (.slice none 0 0)).toArray 26 (0, 0)) := (hk.block _ (by have := H1.out.2.2.2; omega)).trans H1.out.2.1
      have E1 : W.heap[w.heap.size + 1]? = some (.cells #[.nilIface] 30 (0, 0)) := (hk.block _ H1.out.2.2.2).trans H1.out.2.2.1
      obtain ⟨L, hL⟩ : ∃ L, Rp.racesAt m b (ofs m) = L := ⟨_, rfl⟩
      rw [hL] at hrow hX hrc1
      have hgr : getRep b = if Rp.ok (Rp.headOf b L) = true then some (Rp.headOf b L) else none := by
        unfold getRep
        rw [HM.out]
        rw [show Rp.flagsOk m b (List.range m) = true from hfl, Bool.true_and, show Rp.racesAt m b (List.range m) = L from hL]
      obtain ⟨T, hT⟩ : ∃ T, Rp.ok (Rp.headOf b L) = T := ⟨_, rfl⟩
      rw [hT] at hgr
      have CK := hid (show Calls Tryd.prog 17 #[.agg (rpC (Rp.headOf b []) (.slice ra L.length rc)).toArray] W fun e w' => e = .returned (if T = true then .nilIface else (.iface 217 (.pointer (some q)))) ∧ Keep (· < W.heap.size) W w' from by
        have := check_walk (Rp.headOf b L) _ _ W _ hrow.at_ ((hkw.cell (x := ⟨2, 0, none⟩) hl).trans HE.out) (Nat.lt_of_lt_of_le hl hkw.size)
        rw [hT] at this
        exact this)
      have HQ := hid (And.intro hX (And.intro hrow (And.intro hk (And.intro hkw (And.intro R1 (And.intro E1 (And.intro hK (And.intro hD hgr))))))))
      have hi := rp_size (Rp.headOf b []) (.slice ra L.length rc)
      have h1 := rp_one (Rp.headOf b []) ra L.length rc
      have hi0 := rp_size noRep (.slice none 0 0)
      have h10 := rp_one noRep none 0 0
      clear hX hrow hk hkw R1 E1 hK hD hgr hfl hB hL hT
      cases T with
      | true =>
        go_wp2_with (refine wpList_load_row rfl 26 (.tmp 4) rfl X rfl 26 _ (0, 0) _ HQ.out.1 Tryd.underlying26 rfl hi ?_)
        refine CK.out.mono ?_
        rintro e w5 ⟨he5, k5⟩
        simp only [if_true] at he5
        subst he5
        have X5 := (k5.block X (Array.getElem?_eq_some_iff.1 HQ.out.1).1).trans HQ.out.1
        have R5 := (k5.block w.heap.size (Array.getElem?_eq_some_iff.1 HQ.out.2.2.2.2.1).1).trans HQ.out.2.2.2.2.1
        have E5 := (k5.block (w.heap.size + 1) (Array.getElem?_eq_some_iff.1 HQ.out.2.2.2.2.2.1).1).trans HQ.out.2.2.2.2.2.1
        have D5 := (k5.block D (Array.getElem?_eq_some_iff.1 HQ.out.2.2.2.2.2.2.1).1).trans HQ.out.2.2.2.2.2.2.1
        have H5 := hid (And.intro k5 (And.intro X5 (And.intro R5 (And.intro E5 D5))))
        clear k5 X5 R5 E5 D5
        go_wp2_with (first
          | (refine wpList_load_row rfl 26 (.tmp 4) rfl X rfl 26 _ (0, 0) _ H5.out.2.1 Tryd.underlying26 rfl hi ?_)
          | (refine wpList_store_row rfl 26 (.tmp 2) (.tmp 83) rfl w.heap.size (rpC (Rp.headOf b []) (.slice ra L.length rc)).toArray rfl rfl 26 _ H5.out.2.2.1 hi rfl h1 ?_
             refine list_world (fun w6 => Keep (fun k => k ≠ w.heap.size) w5 w6 ∧ w6.heap[w.heap.size]? = some (.cells (rpC (Rp.headOf b []) (.slice ra L.length rc)).toArray 26 (0, 0))) ⟨(Keep.refl _ _).setRow _ (by simp), heap_setRow H5.out.2.2.1 _⟩ ?_
             rintro w6 ⟨k6, R6⟩
             have E6 := (k6.block (w.heap.size + 1) (by simp)).trans H5.out.2.2.2.1
             have c6 : w6.cell? ⟨w.heap.size + 1, 0, none⟩ = some .nilIface := cell_at (cs := [_]) E6 0
             have f6 := frozen_at E6 0
             have H6 := hid (And.intro k6 (And.intro R6 E6))
             clear k6 R6 E6))
        have k7 : Keep (fun k => k ≠ w.heap.size + 1) w6 (w6.setCell ⟨w.heap.size + 1, 0, none⟩ .nilIface) := (Keep.refl _ _).setCell _ (by simp)
        have kq : Keep (fun k => k < W.heap.size ∧ k ≠ w.heap.size ∧ k ≠ w.heap.size + 1 ∧ k ≠ D) W ((w6.setCell ⟨w.heap.size + 1, 0, none⟩ .nilIface).putObj D (.deferred none)) :=
          (((H5.out.1.mono (fun k h => h.1)).trans (H6.out.1.mono (fun k h => h.2.1))).trans (k7.mono (fun k h => h.2.2.1))).trans ((keep_put_ne _ D _).mono (fun k h => ⟨by have := H5.out.1.size; have := H6.out.1.size; have := k7.size; omega, h.2.2.2⟩))
        have kD : w.heap.size + 1 < D := by have := H1.out.2.2.2; have := H3.out.1.size; have := HQ.out.2.2.2.2.2.2.2.1; omega
        refine get_fin rfl rfl ((k7.block _ (by simp)).trans H6.out.2.1) (set_at (cs := [_]) H6.out.2.2 0 _) ((k7.block D (by omega)).trans ((H6.out.1.block D (by omega)).trans H5.out.2.2.2.2)) hi ⟨?_, ?_⟩
        · exact HQ.out.2.2.2.1.trans (kq.mono (fun k h => by have := HQ.out.2.2.2.1.size; omega))
        · rw [HQ.out.2.2.2.2.2.2.2.2]
          simp only [if_true]
          refine ⟨_, rfl, (HQ.out.2.1.at_.keep kq (fun k hk => ?_)).mono (fun k hk => ?_)⟩
          · have hlk := HQ.out.2.1.lt hk
            have := H1.out.2.2.2
            have := H3.out.1.size
            refine ⟨hlk.2, by omega, by omega, fun e => ?_⟩
            subst e
            have := HQ.out.2.1.isCells hk HQ.out.2.2.2.2.2.2.1
            cases this
          · have hlk := HQ.out.2.1.lt hk
            have := H1.out.2.2.2
            have := H3.out.1.size
            omega
      | false =>
        go_wp2_with (refine wpList_load_row rfl 26 (.tmp 4) rfl X rfl 26 _ (0, 0) _ HQ.out.1 Tryd.underlying26 rfl hi ?_)
        refine CK.out.mono ?_
        rintro e w5 ⟨he5, k5⟩
        simp only [Bool.false_eq_true, if_false] at he5
        subst he5
        have R5 := (k5.block w.heap.size (Array.getElem?_eq_some_iff.1 HQ.out.2.2.2.2.1).1).trans HQ.out.2.2.2.2.1
        have E5 := (k5.block (w.heap.size + 1) (Array.getElem?_eq_some_iff.1 HQ.out.2.2.2.2.2.1).1).trans HQ.out.2.2.2.2.2.1
        have D5 := (k5.block D (Array.getElem?_eq_some_iff.1 HQ.out.2.2.2.2.2.2.1).1).trans HQ.out.2.2.2.2.2.2.1
        have H5 := hid (And.intro k5 (And.intro R5 (And.intro E5 D5)))
        clear k5 R5 E5 D5
        go_wp2_with (refine wpList_store_row rfl 26 (.tmp 2) (.tmp 81) rfl w.heap.size (rpC noRep (.slice none 0 0)).toArray rfl rfl 26 _ H5.out.2.1 hi0 rfl h10 ?_
                     refine list_world (fun w6 => Keep (fun k => k ≠ w.heap.size) w5 w6 ∧ w6.heap[w.heap.size]? = some (.cells (rpC noRep (.slice none 0 0)).toArray 26 (0, 0))) ⟨(Keep.refl _ _).setRow _ (by simp), heap_setRow H5.out.2.1 _⟩ ?_
                     rintro w6 ⟨k6, R6⟩
                     have E6 := (k6.block (w.heap.size + 1) (by simp)).trans H5.out.2.2.1
                     have c6 : w6.cell? ⟨w.heap.size + 1, 0, none⟩ = some .nilIface := cell_at (cs := [_]) E6 0
                     have f6 := frozen_at E6 0
                     have H6 := hid (And.intro k6 (And.intro R6 E6))
                     clear k6 R6 E6)
        have k7 : Keep (fun k => k ≠ w.heap.size + 1) w6 (w6.setCell ⟨w.heap.size + 1, 0, none⟩ (.iface 217 (.pointer (some q)))) := (Keep.refl _ _).setCell _ (by simp)
        have kD : w.heap.size + 1 < D := by have := H1.out.2.2.2; have := H3.out.1.size; have := HQ.out.2.2.2.2.2.2.2.1; omega
        refine get_fin rfl rfl ((k7.block _ (by simp)).trans H6.out.2.1) (set_at (cs := [_]) H6.out.2.2 0 _) ((k7.block D (by omega)).trans ((H6.out.1.block D (by omega)).trans H5.out.2.2.2)) hi0 ⟨?_, ?_⟩
        · refine (((HQ.out.2.2.2.1.trans (H5.out.1.mono (fun k h => Nat.lt_of_lt_of_le h HQ.out.2.2.2.1.size))).trans (H6.out.1.mono (fun k h => by omega))).trans (k7.mono (fun k h => by omega))).trans ((keep_put_ne _ D _).mono (fun k h => ⟨?_, by omega⟩))
          have := H5.out.1.size
          have := H6.out.1.size
          have := k7.size
          have := HQ.out.2.2.2.1.size
          omega
        · rw [HQ.out.2.2.2.2.2.2.2.2]
          simp only [Bool.false_eq_true, if_false]
    case stop =>
      rintro D c pre W hD hpre ⟨rfl, hk, hR, hE, i, him, hbad⟩ hK
      rw [hz4] at hD
      have hgr : getRep b = none := by
        unfold getRep
        rw [HM.out]
        have hf : Rp.flagsOk m b (List.range m) = false := by
          cases hq : Rp.flagsOk m b (List.range m) with
          | false => rfl
          | true =>
            have := List.all_eq_true.1 hq i (List.mem_range.2 him)
            rw [Nat.mod_eq_of_lt him] at this
            simp at this
            simp at hbad
            omega
        rw [hf]
        rfl
      have hi0 := rp_size noRep (.slice none 0 0)
      refine wpIn_wide.2 ?_
      have HK := hid (And.intro hk (And.intro hR (And.intro hE (And.intro hK hgr))))
      clear hk hR hE hK hgr hbad
      go_wp2_with fail
      have kD : w.heap.size + 1 < D := by have := H1.out.2.2.2; have := H3.out.1.size; omega
      refine get_fin rfl rfl HK.out.2.1 HK.out.2.2.1 HK.out.2.2.2.1 hi0 ⟨?_, ?_⟩
      · exact HK.out.1.trans ((keep_put_ne _ D _).mono (fun k h => ⟨Nat.lt_of_lt_of_le h HK.out.1.size, by omega⟩))
      · rw [HK.out.2.2.2.2]
end Go.Proofs.YtnpneippahdigaaDoor
