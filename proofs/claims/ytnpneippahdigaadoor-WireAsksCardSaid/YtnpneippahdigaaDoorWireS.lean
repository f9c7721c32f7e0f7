/-
  Step by step: 'Respond' of package wire, with its closure, its table of errors and 'slices.IndexFunc'.
-/
import Derived.Test.YtnpneippahdigaaDoorWireR
import Derived.Test.YtnpneippahdigaaDoorWireC
import Derived.Test.YtnpneippahdigaaDoorNum
namespace Go.Proofs.YtnpneippahdigaaDoor
open Go.RowKit Go.Proofs.Mem Go.Proofs.Txt

theorem eql_nil_iface {P : Program} (w : World) (t : TypeId) (h : P.isIface t = true) (u : TypeId) (x : Value) : (binOp .eql t .nilIface (.iface u x)).run P w = .ok (.bool false) w := by
  obtain ⟨ms, hu⟩ := Go.underlying_of_isIface h
  simp only [binOp]
  have e : (Op.equalIn 10000 t .nilIface (.iface u x)).run P w = .ok false w := by
    rw [Op.equalIn]
    simp [run_underlying hu]
  simp [Op.equal, Op.maxDepth, e]
set_option maxRecDepth 100000 in
theorem is_nil (v : Value) (w : World) : Calls Tryd.prog 61 #[.nilIface, .iface 217 v] w fun e w' => e = .returned (.bool false) ∧ w = w' := by
  have heq := eql_nil_iface (P := Tryd.prog) w 30 (by kernel_rfl) 217 v
  go_enter Tryd.func61, Tryd.ntmps61
  go_wp2_with fail
  go_ret
  exact ⟨rfl, rfl⟩

/-- the table's cells. -/
def errCs (xs : List Addr) : List Value := xs.map fun x => Value.iface 217 (.pointer (some x))

set_option maxRecDepth 100000 in
set_option maxHeartbeats 2000000 in
theorem table_walk (xs : List Addr) (w : World) (he : ErrsAt w errGs xs) :
    Calls Tryd.prog 75 #[] w fun e w' => e = .returned (.slice (some ⟨w.heap.size, 0, none⟩) 17 17) ∧ w'.heap[w.heap.size]? = some (.cells (errCs xs).toArray 30 (0, 0)) ∧ Keep (· < w.heap.size) w w' := by
  have hl : xs.length = 17 := he.length
  have hcell : ∀ (i g : Nat) (x : Addr), errGs[i]? = some g → xs[i]? = some x → w.cell? ⟨g, 0, none⟩ = some (.iface 217 (.pointer (some x))) := by
    intro i g x hg hx
    obtain ⟨g', hg', h'⟩ := errs_get he i x hx
    obtain rfl := Option.some.inj (hg.symm.trans hg')
    exact h'.cell
  obtain ⟨x0, x1, x2, x3, x4, x5, x6, x7, x8, x9, x10, x11, x12, x13, x14, x15, x16, hx⟩ : ∃ x0 x1 x2 x3 x4 x5 x6 x7 x8 x9 x10 x11 x12 x13 x14 x15 x16, xs = [x0, x1, x2, x3, x4, x5, x6, x7, x8, x9, x10, x11, x12, x13, x14, x15, x16] := by
    match xs, hl with
    | [x0, x1, x2, x3, x4, x5, x6, x7, x8, x9, x10, x11, x12, x13, x14, x15, x16], _ => exact ⟨x0, x1, x2, x3, x4, x5, x6, x7, x8, x9, x10, x11, x12, x13, x14, x15, x16, rfl⟩
  have c0 := hcell 0 _ x0 rfl (by rw [hx]; rfl)
  have c1 := hcell 1 _ x1 rfl (by rw [hx]; rfl)
  have c2 := hcell 2 _ x2 rfl (by rw [hx]; rfl)
  have c3 := hcell 3 _ x3 rfl (by rw [hx]; rfl)
  have c4 := hcell 4 _ x4 rfl (by rw [hx]; rfl)
  have c5 := hcell 5 _ x5 rfl (by rw [hx]; rfl)
  have c6 := hcell 6 _ x6 rfl (by rw [hx]; rfl)
  have c7 := hcell 7 _ x7 rfl (by rw [hx]; rfl)
  have c8 := hcell 8 _ x8 rfl (by rw [hx]; rfl)
  have c9 := hcell 9 _ x9 rfl (by rw [hx]; rfl)
  have c10 := hcell 10 _ x10 rfl (by rw [hx]; rfl)
  have c11 := hcell 11 _ x11 rfl (by rw [hx]; rfl)
  have c12 := hcell 12 _ x12 rfl (by rw [hx]; rfl)
  have c13 := hcell 13 _ x13 rfl (by rw [hx]; rfl)
  have c14 := hcell 14 _ x14 rfl (by rw [hx]; rfl)
  have c15 := hcell 15 _ x15 rfl (by rw [hx]; rfl)
  have c16 := hcell 16 _ x16 rfl (by rw [hx]; rfl)
  have HX := hid hx
  clear he hx hcell hl
  go_enter Tryd.func75, Tryd.ntmps75
  go_wp2_with fail
  go_ret
  refine ⟨rfl, ?_, (Keep.refl _ _).alloc _ (fun _ h => h)⟩
  rw [HX.out]
  exact heap_alloc_new w _

set_option maxRecDepth 100000 in
theorem closure_nil (v : Value) (c : Nat) (w : World) (hc : w.cell? ⟨c, 0, none⟩ = some .nilIface) :
    Calls Tryd.prog 76 #[.iface 217 v, .pointer (some ⟨c, 0, none⟩)] w fun e w' => e = .returned (.bool false) ∧ w = w' := by
  go_enter Tryd.func76, Tryd.ntmps76
  go_wp2_with fail
  refine (is_nil v w).mono ?_
  rintro e w' ⟨rfl, rfl⟩
  go_wp2_with fail
  go_ret
  exact ⟨rfl, rfl⟩
set_option maxRecDepth 100000 in
theorem closure_same (a : Addr) (c : Nat) (w : World) (hc : w.cell? ⟨c, 0, none⟩ = some (.iface 217 (.pointer (some a)))) :
    Calls Tryd.prog 76 #[.iface 217 (.pointer (some a)), .pointer (some ⟨c, 0, none⟩)] w fun e w' => e = .returned (.bool true) ∧ w = w' := by
  go_enter Tryd.func76, Tryd.ntmps76
  go_wp2_with fail
  refine (is_same a w).mono ?_
  rintro e w' ⟨rfl, rfl⟩
  go_wp2_with fail
  go_ret
  exact ⟨rfl, rfl⟩
set_option maxRecDepth 100000 in
theorem closure_other (a b : Addr) (c : Nat) (ca cb : Array Value) (ta tb : TypeId) (w : World) (hne : a ≠ b) (ha : w.heap[a.block]? = some (.cells ca ta (0, 0))) (hb : w.heap[b.block]? = some (.cells cb tb (0, 0))) (hc : w.cell? ⟨c, 0, none⟩ = some (.iface 217 (.pointer (some a)))) :
    Calls Tryd.prog 76 #[.iface 217 (.pointer (some b)), .pointer (some ⟨c, 0, none⟩)] w fun e w' => e = .returned (.bool false) ∧ w = w' := by
  have HA := hid ha
  have HB := hid hb
  clear ha hb
  go_enter Tryd.func76, Tryd.ntmps76
  go_wp2_with fail
  refine (is_other a b ca cb ta tb w hne HA.out HB.out).mono ?_
  rintro e w' ⟨rfl, rfl⟩
  go_wp2_with fail
  go_ret
  exact ⟨rfl, rfl⟩

set_option maxRecDepth 100000 in
set_option maxHeartbeats 1000000 in
/-- where the closure says yes first. -/
theorem index_walk (xs : List Addr) (n : Nat) (b c : Nat) (w : World) (hl : xs.length = 17) (hn : n ≤ 17) (hb : w.heap[b]? = some (.cells (errCs xs).toArray 30 (0, 0)))
    (hc : ∀ i x, i ≤ n → xs[i]? = some x → Calls Tryd.prog 76 #[.iface 217 (.pointer (some x)), .pointer (some ⟨c, 0, none⟩)] w fun e w' => e = .returned (.bool (i == n)) ∧ w = w') :
    Calls Tryd.prog 74 #[.slice (some ⟨b, 0, none⟩) 17 17, .func (.func 76) #[] #[.pointer (some ⟨c, 0, none⟩)]] w fun e w' => e = .returned (.int .i64 (if n = 17 then -1 else (n : Int))) ∧ w = w' := by
  have HB := hid hb
  have HC := hid hc
  have HL := hid hl
  clear hb hc hl
  go_enter Tryd.func74, Tryd.ntmps74
  go_wp2_with fail
  go_loopg [5, 8] 18 (fun k _ s8 wr => ∃ i, i + k = 18 ∧ i ≤ n ∧ s8 = .int .i64 (i : Int) ∧ wr = w)
  case atStart => exact ⟨0, rfl, Nat.zero_le _, rfl, rfl⟩
  case round =>
    obtain ⟨i, hi, hin, rfl, rfl⟩ := hrel
    by_cases h17 : i < 17
    · have l0 : (i : Int) < 17 := by omega
      obtain ⟨x, hx⟩ : ∃ x, xs[i]? = some x := ⟨_, List.getElem?_eq_getElem (by have := HL.out; omega)⟩
      have cb : wr.cell? ⟨b, i, none⟩ = some (.iface 217 (.pointer (some x))) := by
        rw [cell_at HB.out]; unfold errCs; rw [List.getElem?_map, hx]; rfl
      have HX := hid hx
      clear hx
      by_cases e : i = n
      · subst e
        go_wp2_with fail
        refine (HC.out i x (Nat.le_refl _) HX.out).mono ?_
        rintro e' w2 ⟨rfl, rfl⟩
        have eb : (i == i) = true := by simp
        rw [eb]
        clear eb
        go_wp2_with fail
        go_ret
        exact ⟨rfl, rfl⟩
      · go_wp2_with fail
        refine (HC.out i x hin HX.out).mono ?_
        rintro e' w2 ⟨rfl, rfl⟩
        have eb : (i == n) = false := by simpa using e
        rw [eb]
        clear eb
        go_wp2_with fail
        go_roundg (gk - 1)
        case measure => omega
        case rel => exact ⟨i + 1, by omega, by omega, by go_num, rfl⟩
    · obtain rfl : i = 17 := by omega
      obtain rfl : n = 17 := by omega
      go_wp2_with fail
      go_ret
      exact ⟨rfl, rfl⟩

/-- an error, and its number less one (17: none). -/
def ErrNo (xs : List Addr) (v : Value) (n : Nat) : Prop := (v = .nilIface ∧ n = 17) ∨ ∃ a, v = .iface 217 (.pointer (some a)) ∧ xs[n]? = some a
theorem closure_at (xs : List Addr) (n c : Nat) (v : Value) (w w0 : World) (he : ErrsAt w0 errGs xs) (hd : xs.Nodup) (k : Keep (· < w0.heap.size) w0 w) (hv : ErrNo xs v n) (hc : w.cell? ⟨c, 0, none⟩ = some v) :
    ∀ i x, i ≤ n → xs[i]? = some x → Calls Tryd.prog 76 #[.iface 217 (.pointer (some x)), .pointer (some ⟨c, 0, none⟩)] w fun e w' => e = .returned (.bool (i == n)) ∧ w = w' := by
  intro i x hi hx
  have hlen : xs.length = 17 := he.length
  have hlt : i < 17 := by rw [← hlen]; exact (List.getElem?_eq_some_iff.1 hx).1
  rcases hv with ⟨rfl, rfl⟩ | ⟨a, rfl, ha⟩
  · have eb : (i == 17) = false := by simp; omega
    rw [eb]
    exact closure_nil _ c w hc
  · by_cases e : i = n
    · subst e
      obtain rfl : x = a := Option.some.inj (hx.symm.trans ha)
      have eb : (i == i) = true := by simp
      rw [eb]
      exact closure_same x c w hc
    · have eb : (i == n) = false := by simpa using e
      rw [eb]
      have hne : a ≠ x := by
        intro h
        subst h
        obtain ⟨p1, q1⟩ := List.getElem?_eq_some_iff.1 ha
        obtain ⟨p2, q2⟩ := List.getElem?_eq_some_iff.1 hx
        have := List.getElem_inj (h₀ := p1) (h₁ := p2) hd |>.1 (q1.trans q2.symm)
        omega
      obtain ⟨ga, _, ea⟩ := errs_get he n a ha
      obtain ⟨gx, _, ex⟩ := errs_get he i x hx
      obtain ⟨ca, ta, ha'⟩ := ea.blk
      obtain ⟨cx, tx, hx'⟩ := ex.blk
      exact closure_other a x c ca cx ta tx w hne ((k.block _ ea.blt).trans ha') ((k.block _ ex.blt).trans hx') hc

/-- the byte of an error's number. -/
def errNum (n : Nat) : Int := if n = 17 then 0 else (n : Int) + 1

set_option maxRecDepth 100000 in
set_option maxHeartbeats 2000000 in
theorem respond_walk (t s : Int) (er v : Value) (n : Nat) (more : List Nat) (xs : List Addr) (w : World) (p : Nat → Prop) (hl : more.length ≤ 1099511627776) (hv : Cells w p v (ints .u8 more)) (he : ErrsAt w errGs xs) (hd : xs.Nodup) (hn : ErrNo xs er n) (hn17 : n ≤ 17) :
    Calls Tryd.prog 33 #[.int .i64 t, .int .i64 s, er, v] w fun en w' => ∃ v', en = .returned v' ∧ Fresh w' w.heap.size v' (ints .u8 (Wr.respBytes t s (errNum n) more)) ∧ Keep (· < w.heap.size) w w' ∧ w.heap.size ≤ w'.heap.size := by
  obtain ⟨av, nv, cv, rfl⟩ := cells_form hv
  have HV := hid (hv.lt.mono (q := fun b => b < w.heap.size) (fun _ h => h.1))
  have HE := hid he
  have HD := hid hd
  have HN := hid hn
  have HLE := hid he.length
  rcases hn with ⟨rfl, -⟩ | ⟨a, rfl, -⟩
  all_goals
    have e8 := u8_wrap t
    obtain ⟨x, hx⟩ : ∃ x, Wr.u8 t = x := ⟨_, rfl⟩
    rw [hx] at e8
    have HX := hid hx
    clear hv he hd hx
    go_enter Tryd.func33, Tryd.ntmps33
    go_wp2_with fail
    refine calls_world (fun w1 => Keep (· < w.heap.size) w w1 ∧ w1.heap[w.heap.size]? = some (.cells _ 30 (0, 0)) ∧ w.heap.size < w1.heap.size) ⟨(Keep.refl _ _).alloc _ (fun _ h => h), heap_alloc_new w _, by simp⟩ ?_
    rintro w1 ⟨k1, h1, z1⟩
    refine (table_walk xs w1 (HE.out.keep k1 (fun _ h => h))).mono ?_
    rintro en w2 ⟨rfl, h2, k2⟩
    have k12 : Keep (· < w.heap.size) w w2 := k1.trans (k2.mono (fun b h => Nat.lt_trans h z1))
    have c2 := (k2.cell (x := ⟨w.heap.size, 0, none⟩) z1).trans (cell_at h1 0)
    have HI := hid (index_walk xs n w1.heap.size w.heap.size w2 HLE.out hn17 h2 (closure_at xs n w.heap.size _ w2 w HE.out HD.out k12 HN.out c2))
    have K2 := hid k12
    have z2 : w.heap.size < w2.heap.size := Nat.lt_of_lt_of_le z1 k2.size
    clear k1 h1 k2 h2 k12 c2
    go_wp2_with fail
    refine HI.out.mono ?_
    rintro en w3 ⟨rfl, rfl⟩
    obtain ⟨j, hj⟩ : ∃ j : Int, (if n = 17 then (-1 : Int) else (n : Int)) = j := ⟨_, rfl⟩
    have hjn : errNum n = j + 1 := by unfold errNum; rw [← hj]; split <;> omega
    have hj0 : -1 ≤ j := by rw [← hj]; split <;> omega
    have hj1 : j ≤ 17 := by rw [← hj]; split <;> omega
    rw [hj]
    have HJ := hid hjn
    have e9 := u8_wrap (j + 1)
    obtain ⟨y, hy⟩ : ∃ y, Wr.u8 (j + 1) = y := ⟨_, rfl⟩
    rw [hy] at e9
    have HY := hid hy
    clear hj hjn hy HI HE HD HN HLE
    go_wp2_with fail
    refine calls_world (fun w3 => Keep (· < w2.heap.size) w2 w3 ∧ w3.heap[w2.heap.size]? = some (.cells (ints .u8 [x]).toArray 5 (0, 0)) ∧ w2.heap.size < w3.heap.size) ⟨(Keep.refl _ _).alloc _ (fun _ h => h), heap_alloc_new w2 _, by simp⟩ ?_
    rintro w3 ⟨k3, h3, z3⟩
    refine (num_walk s w3).mono ?_
    rintro en w4 ⟨rfl, h4, k4⟩
    have hx4 : w4.heap[w2.heap.size]? = some (.cells (ints .u8 [x]).toArray 5 (0, 0)) := (k4.block _ z3).trans h3
    have K4 := hid (K2.out.trans ((k3.trans (k4.mono (fun b h => Nat.lt_trans h z3))).mono (fun b h => Nat.lt_trans h z2)))
    have H4 := hid (And.intro hx4 h4)
    have z4 := k4.size
    clear k3 h3 k4 h4 hx4
    go_wp2_with fail
    have hz3 : w3.heap.size < w4.heap.size := (Array.getElem?_eq_some_iff.1 H4.out.2).1
    have k45 : Keep (· < w4.heap.size) w4 (w4.alloc (.cells (ints .u8 [y]).toArray 5)) := (Keep.refl _ _).alloc _ (fun _ h => h)
    have n5 : (w4.alloc (.cells (ints .u8 [y]).toArray 5)).heap[w4.heap.size]? = some (.cells (ints .u8 [y]).toArray 5 (0, 0)) := heap_alloc_new w4 _
    refine calls_world (fun w6 => Keep (· < w4.heap.size) w4 w6 ∧ w6.heap[w4.heap.size]? = some (.cells (ints .u8 [y]).toArray 5 (0, 0)) ∧ w6.heap[w4.heap.size + 1]? = some (.cells ([.slice (some ⟨w2.heap.size, 0, none⟩) 1 1, .slice (some ⟨w3.heap.size, 0, none⟩) 8 8, .slice (some ⟨w4.heap.size, 0, none⟩) 1 1, .slice av nv cv] : List Value).toArray 32 (0, 0)) ∧ w4.heap.size < w6.heap.size) ?h6 ?_
    case h6 =>
      refine ⟨k45.alloc _ (fun b h => by simp; omega), (Below.heap_alloc _ _ _ (by simp)).trans n5, ?_, by simp; omega⟩
      have := heap_alloc_new (w4.alloc (.cells (ints .u8 [y]).toArray 5)) (.cells ([.slice (some ⟨w2.heap.size, 0, none⟩) 1 1, .slice (some ⟨w3.heap.size, 0, none⟩) 8 8, .slice (some ⟨w4.heap.size, 0, none⟩) 1 1, .slice av nv cv] : List Value).toArray 32)
      have e1 : (w4.alloc (.cells (ints .u8 [y]).toArray 5)).heap.size = w4.heap.size + 1 := by simp
      rw [e1] at this
      exact this
    rintro w6 ⟨k6, y6, l6, z6⟩
    have wz : w.heap.size ≤ w4.heap.size := by omega
    have at6 : ∀ (b n : Nat) (cs : List Nat), w6.heap[b]? = some (.cells (ints .u8 cs).toArray 5 (0, 0)) → n = cs.length → n ≤ 1000 → Cells w6 (fun _ => True) (.slice (some ⟨b, 0, none⟩) n n) (ints .u8 cs) := by
      intro b n cs h hn h1
      have := Cells.of_block (w := w6) (p := fun _ => True) (off := 0) (n := n) (cap := n) h trivial (by rw [ints_length]; omega) (Nat.le_refl _) (by unfold maxLen; omega)
      rwa [List.drop_zero, List.take_of_length_le (by rw [ints_length]; omega)] at this
    have R6 : Rws w6 (fun _ => True) [.slice (some ⟨w2.heap.size, 0, none⟩) 1 1, .slice (some ⟨w3.heap.size, 0, none⟩) 8 8, .slice (some ⟨w4.heap.size, 0, none⟩) 1 1, .slice av nv cv] [[x], Sha.be8 (Wr.u64 s), [y], more] :=
      Rws.cons (at6 _ 1 _ ((k6.block _ (by omega)).trans H4.out.1) rfl (by decide)) (Rws.cons (at6 _ 8 _ ((k6.block _ hz3).trans H4.out.2) rfl (by decide)) (Rws.cons (at6 _ 1 _ y6 rfl (by decide))
        (Rws.cons ((HV.out.keep (K4.out.trans (k6.mono (fun b h => Nat.lt_of_lt_of_le h wz))) (fun _ h => h)).mono (fun _ _ => trivial)) (Rws.nil _ _))))
    have L6 : Cells w6 (fun _ => True) (.slice (some ⟨w4.heap.size + 1, 0, none⟩) 4 4) [.slice (some ⟨w2.heap.size, 0, none⟩) 1 1, .slice (some ⟨w3.heap.size, 0, none⟩) 8 8, .slice (some ⟨w4.heap.size, 0, none⟩) 1 1, .slice av nv cv] := by
      have := Cells.of_block (w := w6) (p := fun _ => True) (off := 0) (n := 4) (cap := 4) l6 trivial (by simp) (Nat.le_refl _) (by decide)
      exact this
    have K6 := hid (K4.out.trans (k6.mono (fun b h => Nat.lt_of_lt_of_le h wz)))
    have z66 : w.heap.size ≤ w6.heap.size := by omega
    refine (concat_walk _ _ _ w6 _ _ (by simp [total, be8_len]; omega) L6 R6).mono ?_
    rintro en w7 ⟨v7, rfl, f7, k7, z7⟩
    have F7 := hid (And.intro (f7.mono (C := w.heap.size) z66) (K6.out.trans (k7.mono (fun b h => Nat.lt_of_lt_of_le h z66))))
    clear f7 k7 L6 R6 at6 k6 y6 l6 k45 n5
    go_wp2_with fail
    go_ret
    refine ⟨v7, rfl, ?_, F7.out.2, by omega⟩
    have e : Wr.respBytes t s (errNum n) more = [[x], Sha.be8 (Wr.u64 s), [y], more].flatten := by
      rw [HJ.out]
      simp [Wr.respBytes, HX.out, HY.out]
    rw [e]
    exact F7.out.1
end Go.Proofs.YtnpneippahdigaaDoor
