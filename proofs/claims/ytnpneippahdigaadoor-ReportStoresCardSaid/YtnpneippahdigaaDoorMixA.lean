/-
  Step by step: what 'mix' of package digest makes of eight words and a block.
-/
import Derived.Test.YtnpneippahdigaaDoorProg
import Derived.Test.YtnpneippahdigaaDoorMixP
import Derived.Test.YtnpneippahdigaaDoorRot
import Derived.Test.YtnpneippahdigaaDoorTail
import Derived.KernelRfl
import Derived.Deep.LoopGhost
import Derived.BigQuiet
import Derived.Deep.QuietTactic
import Derived.Deep.DeepCutAuto
namespace Go.Proofs.YtnpneippahdigaaDoor
open Go.RowKit Go.Proofs.Mem

set_option maxRecDepth 100000 in
set_option maxHeartbeats 4000000 in
theorem mix_walk (b : Nat) (ws left : List Nat) (n : Nat) (w : World) (hw : ws.length = 8) (hl : left.length = 64) (hby : ∀ i, left.getD i 0 < 256) (hwd : ∀ i, ws.getD i 0 < 4294967296) (hT : TurnsAt w) (hb : w.heap[b]? = some (.cells (stCells ws left n).toArray 190 (0, 0))) :
    Calls Tryd.prog 109 #[.pointer (some ⟨b, 0, none⟩), .pointer (some ⟨b, 8, none⟩)] w fun e w' => e = .returned (.tuple #[]) ∧ Keep (fun k => k < w.heap.size ∧ k ≠ b) w w' ∧ w'.heap[b]? = some (.cells (stCells (Sha.mix ws left) left n).toArray 190 (0, 0)) := by
  have hbs : b < w.heap.size := by have := Array.getElem?_eq_some_iff.1 hb; exact this.1
  have Hby := hid hby
  have Vok := ofList_ok ws hwd
  have HT := hid hT
  have Hb := hid hb
  clear hby hb hT hwd
  go_enter Tryd.func109, Tryd.ntmps109
  go_wp2_with fail
  go_loopg [24] 16 (fun k s wr => ∃ t : Nat, t + k = 16 ∧ s = .int .i64 t ∧ wr.heap[w.heap.size]? = some (.cells (ints .u32 (Sha.load left t)).toArray 206 (0, 0)) ∧ Keep (· < w.heap.size) w wr)
  case atStart => exact ⟨0, rfl, rfl, by rw [heap_alloc_new]; rfl, (Keep.refl _ _).alloc _ (fun _ h => h)⟩
  case round =>
    obtain ⟨t, ht, rfl, hW, hK⟩ := hrel
    have HW := hid hW
    clear hW
    by_cases hlt : t < 16
    · have a0 : (0 : Int) ≤ 4 * (t : Int) := by omega
      have a1 : 4 * (t : Int) ≤ 4 * (t : Int) + 4 := by omega
      have a2 : 4 * (t : Int) + 4 ≤ 64 := by omega
      have a3 : 4 * (t : Int) + 4 ≤ Tryd.prog.arrayLen 174 := a2
      go_wp2_with fail
      clear a0 a1 a2 a3
      obtain ⟨wo, rfl⟩ : ∃ wo : World, wo = wr := ⟨_, rfl⟩
      obtain ⟨go, rfl⟩ : ∃ go : Nat, go = gk := ⟨_, rfl⟩
      go_loopg [36] 4 (fun k s wr => ∃ q : Nat, q + k = 4 ∧ s = .int .i64 q ∧ wr.heap[w.heap.size]? = some (.cells (ints .u32 ((Sha.load left t).set t (Sha.wordTo left t q))).toArray 206 (0, 0)) ∧ Keep (· < w.heap.size) w wr)
      case atStart => exact ⟨0, rfl, rfl, by rw [HW.out, show Sha.wordTo left t 0 = 0 from rfl, set_getD_self _ _ (load_zero left t t (Nat.le_refl _))], hK⟩
      case round =>
        obtain ⟨q, hq, rfl, hW2, hK2⟩ := hrel
        by_cases hlq : q < 4
        · have c1 : wr.cell? ⟨b, 8 + 4 * t + q, none⟩ = some (.int .u8 (left.getD (4 * t + q) 0 : Nat)) := by
            rw [hK2.cell hbs, cell_at Hb.out, Nat.add_assoc]
            exact st_byte hw (by omega)
          have c2 : wr.cell? ⟨w.heap.size, t, none⟩ = some (.int .u32 (Sha.wordTo left t q : Nat)) := by
            rw [cell_at hW2, ints_get _ _ _ (by rw [List.length_set, load_length]; omega), getD_set_self _ _ _ (by rw [load_length]; omega)]
          have c3 : wr.frozen? ⟨w.heap.size, t, none⟩ = false := frozen_at hW2 t
          have hw1 := wordTo_lt left t q Hby.out
          have hy := Hby.out (4 * t + q)
          have HW2 := hid hW2
          clear hW2
          obtain ⟨y, hy'⟩ : ∃ y, left.getD (4 * t + q) 0 = y := ⟨_, rfl⟩
          rw [hy'] at c1 hy
          have Hy := hid hy'
          clear hy'
          go_wp2_with fail
          go_roundg (gk - 1)
          case measure => omega
          case rel =>
            refine ⟨q + 1, by omega, by go_num, ?_, hK2.setCell _ (by simp)⟩
            rw [set_at HW2.out, or_int _ _ hy, ← Hy.out]
            have := ints_set .u32 ((Sha.load left t).set t (Sha.wordTo left t q)) t (Sha.wordTo left t (q + 1))
            rw [List.set_set] at this
            exact congrArg (fun l : List Value => some (Obj.cells l.toArray _ _)) this
        · obtain rfl : q = 4 := by omega
          go_wp2_with fail
          go_roundg (go - 1)
          case measure => omega
          case rel => exact ⟨t + 1, by omega, by go_num, by rw [hW2]; rfl, hK2⟩
    · obtain rfl : t = 16 := by omega
      go_wp2_with fail
      obtain ⟨wo, rfl⟩ : ∃ wo : World, wo = wr := ⟨_, rfl⟩
      obtain ⟨go, rfl⟩ : ∃ go : Nat, go = gk := ⟨_, rfl⟩
      go_loopg [8] 48 (fun k s wr => ∃ i : Nat, i + k = 48 ∧ s = .int .i64 (16 + i : Nat) ∧ wr.heap[w.heap.size]? = some (.cells (ints .u32 (Sha.more (Sha.load left 16) i)).toArray 206 (0, 0)) ∧ Keep (· < w.heap.size) w wr)
      case atStart => exact ⟨0, rfl, rfl, HW.out, hK⟩
      case round =>
        obtain ⟨i, hi, rfl, hW2, hK2⟩ := hrel
        by_cases hli : i < 48
        ·
          --<
          obtain ⟨X, hX⟩ : ∃ X, Sha.more (Sha.load left 16) i = X := ⟨_, rfl⟩
          rw [hX] at hW2
          have HX := hid hX
          have hXl : X.length = 64 := by rw [← hX, more_length, load_length]
          have hXb : ∀ k, X.getD k 0 < 4294967296 := by rw [← hX]; exact more_lt _ _ (load_lt _ _ Hby.out)
          clear hX
          obtain ⟨x0, e0⟩ : ∃ x, X.getD i 0 = x := ⟨_, rfl⟩
          obtain ⟨x1, e1⟩ : ∃ x, X.getD (1 + i) 0 = x := ⟨_, rfl⟩
          obtain ⟨x9, e9⟩ : ∃ x, X.getD (9 + i) 0 = x := ⟨_, rfl⟩
          obtain ⟨x14, e14⟩ : ∃ x, X.getD (14 + i) 0 = x := ⟨_, rfl⟩
          have c0 : wr.cell? ⟨w.heap.size, i, none⟩ = some (.int .u32 (x0 : Nat)) := by rw [cell_at hW2, ints_get _ _ _ (by omega), e0]
          have c1 : wr.cell? ⟨w.heap.size, 1 + i, none⟩ = some (.int .u32 (x1 : Nat)) := by rw [cell_at hW2, ints_get _ _ _ (by omega), e1]
          have c9 : wr.cell? ⟨w.heap.size, 9 + i, none⟩ = some (.int .u32 (x9 : Nat)) := by rw [cell_at hW2, ints_get _ _ _ (by omega), e9]
          have c14 : wr.cell? ⟨w.heap.size, 14 + i, none⟩ = some (.int .u32 (x14 : Nat)) := by rw [cell_at hW2, ints_get _ _ _ (by omega), e14]
          obtain ⟨old, cw⟩ : ∃ v, wr.cell? ⟨w.heap.size, 16 + i, none⟩ = some v := ⟨_, by rw [cell_at hW2, ints_get _ _ _ (by omega)]⟩
          have cf := frozen_at hW2 (16 + i)
          have b0 : x0 < 4294967296 := e0 ▸ hXb i
          have b1 : x1 < 4294967296 := e1 ▸ hXb (1 + i)
          have b9 : x9 < 4294967296 := e9 ▸ hXb (9 + i)
          have b14 : x14 < 4294967296 := e14 ▸ hXb (14 + i)
          have E := hid (And.intro e0 (And.intro e1 (And.intro e9 e14)))
          have HW2 := hid hW2
          clear e0 e1 e9 e14 hW2 hXb
          have hlt : 16 + (i : Int) < 64 := by omega
          have w1 : IntKind.i64.wrap (16 + (i : Int) - 15) = 1 + (i : Int) := i64_of (n := 1 + i) (by omega) (by omega)
          have w2 : IntKind.i64.wrap (16 + (i : Int) - 2) = 14 + (i : Int) := i64_of (n := 14 + i) (by omega) (by omega)
          have w3 : IntKind.i64.wrap (16 + (i : Int) - 16) = (i : Int) := i64_of (n := i) (by omega) (by omega)
          have w4 : IntKind.i64.wrap (16 + (i : Int) - 7) = 9 + (i : Int) := i64_of (n := 9 + i) (by omega) (by omega)
          have n1 : (1 + (i : Int)).toNat = 1 + i := by omega
          have n2 : (14 + (i : Int)).toNat = 14 + i := by omega
          have n4 : (9 + (i : Int)).toNat = 9 + i := by omega
          have n5 : (16 + (i : Int)).toNat = 16 + i := by omega
          have l1 : (0 : Int) ≤ 1 + i := by omega
          have l2 : (0 : Int) ≤ 14 + i := by omega
          have l4 : (0 : Int) ≤ 9 + i := by omega
          have l5 : (0 : Int) ≤ 16 + i := by omega
          have m1 : (1 : Int) + i < 64 := by omega
          have m2 : (14 : Int) + i < 64 := by omega
          have m3 : (i : Int) < 64 := by omega
          have m4 : (9 : Int) + i < 64 := by omega
          go_wp2_with fail
          go_quiet (fail)
          go_wp2_with fail
          refine Go.Proofs.Tail.wp_region_quiet_tail 29 (by kernel_rfl) (by kernel_rfl) ?_
          simp only [List.take_succ_cons, List.take_zero, List.drop_succ_cons, List.drop_zero]
          repeat (go_big_quiet_step ((go_at_call 122; first | (with_reducible refine Go.Proofs.Tail.quiet_sum (right_s 7 7 (by decide) _ b1 _)) | (with_reducible refine Go.Proofs.Tail.quiet_sum (right_s 18 18 (by decide) _ b1 _)) | (with_reducible refine Go.Proofs.Tail.quiet_sum (right_s 17 17 (by decide) _ b14 _)) | (with_reducible refine Go.Proofs.Tail.quiet_sum (right_s 19 19 (by decide) _ b14 _)))))
          refine wpQuiet_nil ?_
          intro w2 hw2
          obtain ⟨m2, rfl⟩ := hw2
          go_wp2_with fail
          go_roundg (gk - 1)
          case measure => omega
          case rel =>
            refine ⟨i + 1, by omega, by go_num, ?_, (hK2.drewN _).setCell _ (by simp)⟩
            rw [set_at (w := wr.drewN (nq + m2)) HW2.out, more_int X i x0 x1 x9 x14 E.out b1 b14]
            have := ints_set .u32 X (16 + i) ((X.getD i 0 + X.getD (9 + i) 0 + Sha.ss0 (X.getD (1 + i) 0) + Sha.ss1 (X.getD (14 + i) 0)) % Sha.M)
            refine congrArg (fun l : List Value => some (Obj.cells l.toArray _ _)) (this.trans ?_)
            rw [← HX.out]; rfl
          -->
        · obtain rfl : i = 48 := by omega
          clear hK HW ht
          have HW2 := hid hW2
          clear hW2
          obtain ⟨v, hv⟩ : ∃ v, Sha.ofList ws = v := ⟨_, rfl⟩
          have V := hid hv
          rw [hv] at Vok
          have f0 : wr.cell? ⟨b, 0, none⟩ = some (.int .u32 (v.a : Nat)) := by rw [hK2.cell hbs, cell_at Hb.out, ← hv]; exact st_word hw (by omega)
          have f1 : wr.cell? ⟨b, 1, none⟩ = some (.int .u32 (v.b : Nat)) := by rw [hK2.cell hbs, cell_at Hb.out, ← hv]; exact st_word hw (by omega)
          have f2 : wr.cell? ⟨b, 2, none⟩ = some (.int .u32 (v.c : Nat)) := by rw [hK2.cell hbs, cell_at Hb.out, ← hv]; exact st_word hw (by omega)
          have f3 : wr.cell? ⟨b, 3, none⟩ = some (.int .u32 (v.d : Nat)) := by rw [hK2.cell hbs, cell_at Hb.out, ← hv]; exact st_word hw (by omega)
          have f4 : wr.cell? ⟨b, 4, none⟩ = some (.int .u32 (v.e : Nat)) := by rw [hK2.cell hbs, cell_at Hb.out, ← hv]; exact st_word hw (by omega)
          have f5 : wr.cell? ⟨b, 5, none⟩ = some (.int .u32 (v.f : Nat)) := by rw [hK2.cell hbs, cell_at Hb.out, ← hv]; exact st_word hw (by omega)
          have f6 : wr.cell? ⟨b, 6, none⟩ = some (.int .u32 (v.g : Nat)) := by rw [hK2.cell hbs, cell_at Hb.out, ← hv]; exact st_word hw (by omega)
          have f7 : wr.cell? ⟨b, 7, none⟩ = some (.int .u32 (v.h : Nat)) := by rw [hK2.cell hbs, cell_at Hb.out, ← hv]; exact st_word hw (by omega)
          clear hv
          go_wp2_with fail
          go_quiet (fail)
          clear f0 f1 f2 f3 f4 f5 f6 f7
          go_wp2_with fail
          obtain ⟨wo, hwo⟩ : ∃ wo : World, wo = wr.drewN nq := ⟨_, rfl⟩
          rw [← hwo]
          have hKo : Keep (· < w.heap.size) w wo := by rw [hwo]; exact hK2.drewN _
          have HWo : Hid (wo.heap[w.heap.size]? = some (.cells (ints .u32 (Sha.sched left)).toArray 206 (0, 0))) := by rw [hwo]; exact HW2.out
          clear hwo HW2 hK2 hi
          go_loopg [11, 12, 13, 14, 15, 16, 17, 18, 124] 64 (fun k s11 s12 s13 s14 s15 s16 s17 s18 s wr => ∃ t : Nat, ∃ r : Sha.V8, t + k = 64 ∧ r = Sha.rounds (Sha.sched left) v t ∧ s = .int .i64 t ∧ s11 = .int .u32 (r.a : Nat) ∧ s12 = .int .u32 (r.b : Nat) ∧ s13 = .int .u32 (r.c : Nat) ∧ s14 = .int .u32 (r.d : Nat) ∧ s15 = .int .u32 (r.e : Nat) ∧ s16 = .int .u32 (r.f : Nat) ∧ s17 = .int .u32 (r.g : Nat) ∧ s18 = .int .u32 (r.h : Nat) ∧ wr.heap[w.heap.size]? = some (.cells (ints .u32 (Sha.sched left)).toArray 206 (0, 0)) ∧ Keep (· < w.heap.size) w wr)
          case atStart => exact ⟨0, v, rfl, rfl, rfl, rfl, rfl, rfl, rfl, rfl, rfl, rfl, rfl, HWo.out, hKo⟩
          case round =>
            obtain ⟨t, r, ht, hr, rfl, rfl, rfl, rfl, rfl, rfl, rfl, rfl, rfl, hW3, hK3⟩ := hrel
            have HR := hid hr
            clear hr
            have HW3 := hid hW3
            clear hW3
            by_cases hlt : t < 64
            ·
              --<
              have ok : r.ok := HR.out ▸ rounds_ok _ _ t Vok
              have OK := hid ok
              obtain ⟨ba, bb, bc, bd, be, bf, bg, bh⟩ := ok
              simp only [Sha.M] at ba bb bc bd be bf bg bh
              obtain ⟨ka, hka⟩ : ∃ k, Sha.turns.getD t 0 = k := ⟨_, rfl⟩
              obtain ⟨xa, hxa⟩ : ∃ k, (Sha.sched left).getD t 0 = k := ⟨_, rfl⟩
              have ck : wr.cell? ⟨17, t, none⟩ = some (.int .u32 (ka : Nat)) := by rw [hK3.cell HT.out.lt, HT.out.cell t hlt, hka]
              have cx : wr.cell? ⟨w.heap.size, t, none⟩ = some (.int .u32 (xa : Nat)) := by rw [cell_at HW3.out, ints_get _ _ _ (by rw [sched_length]; omega), hxa]
              have E := hid (And.intro hka hxa)
              clear hka hxa
              go_wp2_with fail
              go_quiet ((go_at_call 122; first | (with_reducible refine Calls.quiet_of_same (right_s 6 6 (by decide) _ be _)) | (with_reducible refine Calls.quiet_of_same (right_s 11 11 (by decide) _ be _)) | (with_reducible refine Calls.quiet_of_same (right_s 25 25 (by decide) _ be _))))
              go_wp2_with (go_at_call 122; (first | (with_reducible refine (right_s 2 2 (by decide) _ ba _).mono ?_) | (with_reducible refine (right_s 13 13 (by decide) _ ba _).mono ?_) | (with_reducible refine (right_s 22 22 (by decide) _ ba _).mono ?_)); rintro e w' ⟨rfl, rfl⟩)
              go_roundg (gk - 1)
              case measure => omega
              case rel =>
                refine ⟨t + 1, Sha.turn r ka xa, by omega, ?_, by go_num, ?_, rfl, rfl, rfl, ?_, rfl, rfl, rfl, HW3.out, hK3.drewN _⟩
                · show _ = Sha.turn (Sha.rounds _ v t) (Sha.turns.getD t 0) ((Sha.sched left).getD t 0)
                  rw [← HR.out, E.out.1, E.out.2]
                · exact congrArg (Value.int .u32) (turn_a r ka xa OK.out)
                · exact congrArg (Value.int .u32) (turn_e r ka xa OK.out)
              -->
            · obtain rfl : t = 64 := by omega
              clear HWo hKo
              go_wp2_with fail
              obtain ⟨wo, hwo⟩ : ∃ wo : World, wo = wr := ⟨_, rfl⟩
              have HBo : Hid (wr.heap[b]? = some (.cells (stCells ws left n).toArray 190 (0, 0))) := (hK3.block b hbs).trans Hb.out
              have hKb : Keep (fun k => k < w.heap.size ∧ k ≠ b) w wr := hK3.mono (fun _ h => h.1)
              rw [← hwo] at HBo hKb ⊢
              clear hwo hK3 HW3 ht
              go_loopg [196] 8 (fun k s wr => ∃ i : Nat, i + k = 8 ∧ s = .int .i64 i ∧ wr.heap[b]? = some (.cells (stCells (Sha.addTo ws r.list i) left n).toArray 190 (0, 0)) ∧ Keep (fun k => k < w.heap.size ∧ k ≠ b) w wr)
              case atStart => exact ⟨0, rfl, rfl, HBo.out, hKb⟩
              case round =>
                obtain ⟨i, hi, rfl, hW4, hK4⟩ := hrel
                by_cases hlt : i < 8
                · have hin : i = 0 ∨ i = 1 ∨ i = 2 ∨ i = 3 ∨ i = 4 ∨ i = 5 ∨ i = 6 ∨ i = 7 := by omega
                  have ix : ∀ w0 : World, (Instr.index 187 (.agg #[.int .u32 (r.a : Nat), .int .u32 (r.b : Nat), .int .u32 (r.c : Nat), .int .u32 (r.d : Nat), .int .u32 (r.e : Nat), .int .u32 (r.f : Nat), .int .u32 (r.g : Nat), .int .u32 (r.h : Nat)]) (.int .i64 (i : Nat))).run Tryd.prog w0 = .ok (.int .u32 (r.list.getD i 0 : Nat)) w0 := by
                    intro w0
                    rcases hin with rfl | rfl | rfl | rfl | rfl | rfl | rfl | rfl <;> kernel_rfl
                  clear hin
                  obtain ⟨x, hx⟩ : ∃ x, r.list.getD i 0 = x := ⟨_, rfl⟩
                  obtain ⟨y, hy⟩ : ∃ x, (Sha.addTo ws r.list i).getD i 0 = x := ⟨_, rfl⟩
                  rw [hx] at ix
                  have c1 : wr.cell? ⟨b, i, none⟩ = some (.int .u32 (y : Nat)) := by rw [cell_at hW4, st_word (by rw [addTo_length, hw]) (by omega), hy]
                  have cf := frozen_at hW4 i
                  have E := hid (And.intro hx hy)
                  have HW4 := hid hW4
                  clear hx hy hW4
                  go_wp2_with fail
                  refine Go.Proofs.Tail.wp_region_quiet_tail 9 (by kernel_rfl) (by kernel_rfl) ?_
                  simp only [List.take_succ_cons, List.take_zero, List.drop_succ_cons, List.drop_zero]
                  repeat (go_big_quiet_step (fail))
                  refine wpQuiet_nil ?_
                  intro w2 hw2
                  obtain ⟨m2, rfl⟩ := hw2
                  go_wp2_with fail
                  go_roundg (gk - 1)
                  case measure => omega
                  case rel =>
                    refine ⟨i + 1, by omega, by go_num, ?_, (hK4.drewN _).setCell _ (by simp)⟩
                    rw [set_at (w := wr.drewN m2) HW4.out]
                    have e : (((y : Int) + (x : Int)) % 4294967296) = ((((Sha.addTo ws r.list i).getD i 0 + r.list.getD i 0) % Sha.M : Nat) : Int) := by
                      rw [E.out.1, E.out.2]; unfold Sha.M; omega
                    rw [e, st_set (by rw [addTo_length]; omega)]
                    rfl
                · obtain rfl : i = 8 := by omega
                  go_wp2_with fail
                  go_end0
                  refine ⟨rfl, hK4, hW4.trans ?_⟩
                  rw [HR.out, ← V.out]; rfl
end Go.Proofs.YtnpneippahdigaaDoor
