/-
  Step by step: 'Response' of the reference 21.
-/
import Derived.Test.YtnpneippahdigaaDoorWireM
namespace Go.Proofs.Wr
/-- a response's bytes. -/
def respBytes (t s e : Int) (more : List Nat) : List Nat := u8 t :: (Sha.be8 (u64 s) ++ (u8 e :: more))
end Go.Proofs.Wr
namespace Go.Proofs.YtnpneippahdigaaDoor
open Go.RowKit Go.Proofs.Mem Go.Proofs.Txt

theorem Gr.alloc {w2 w : World} {v : Value} {cs : List Value} (h : Gr w2 w v cs) (o : Obj) : Gr w2 (w.alloc o) v cs :=
  ⟨h.row.keep (q := fun b => b < w.heap.size) ((Keep.refl _ _).alloc _ (fun _ h => h)) (fun b hb => h.row.lt hb), h.keep.alloc _ (fun _ hb => Nat.lt_of_lt_of_le hb h.keep.size), h.own⟩

set_option maxRecDepth 100000 in
set_option maxHeartbeats 1000000 in
theorem rresp_walk (t s e : Int) (v : Value) (more : List Nat) (w : World) (p : Nat → Prop) (hl : more.length ≤ 1099511627776) (hv : Cells w p v (ints .u8 more)) :
    Calls Tryd.prog 34 #[.int .i64 t, .int .i64 s, .int .i64 e, v] w fun en w' => ∃ v', en = .returned v' ∧ Fresh w' w.heap.size v' (ints .u8 (Wr.respBytes t s e more)) ∧ Keep (· < w.heap.size) w w' ∧ w.heap.size ≤ w'.heap.size := by
  have HV := hid (hv.lt.mono (q := fun b => b < w.heap.size) (fun _ h => h.1))
  clear hv
  have e8 := u8_wrap t
  have e9 := u8_wrap e
  obtain ⟨x, hx⟩ : ∃ x, Wr.u8 t = x := ⟨_, rfl⟩
  obtain ⟨y, hy⟩ : ∃ y, Wr.u8 e = y := ⟨_, rfl⟩
  rw [hx] at e8
  rw [hy] at e9
  have HX := hid (And.intro hx hy)
  clear hx hy
  go_enter Tryd.func34, Tryd.ntmps34
  go_wp2_with fail
  refine calls_world (fun w1 => Gr w w1 (.slice (some ⟨w.heap.size, 0, none⟩) 1 1) (ints .u8 [x])) ⟨row_made w (ints .u8 [x]) (by simp [ints]), (Keep.refl _ _).alloc _ (fun _ h => h), fun k hk => by have : w.heap.size = k := Option.some.inj hk; omega⟩ ?_
  intro w1 g1
  refine (rnum20_8 s w1).mono ?_
  rintro en w2 ⟨rfl, h2, k2⟩
  have z1 := g1.keep.size
  have c2 : Cells w2 (fun _ => True) (.slice (some ⟨w1.heap.size, 0, none⟩) 8 8) (ints .u8 (Sha.be8 (Wr.u64 s))) := by
    have := Cells.of_block (w := w2) (p := fun _ => True) (cur := ints .u8 (Sha.be8 (Wr.u64 s))) (off := 0) (n := 8) (cap := 8) h2 trivial (by rw [ints_length, be8_len]; decide) (Nat.le_refl _) (by decide)
    rwa [List.drop_zero, List.take_of_length_le (by rw [ints_length, be8_len]; decide)] at this
  have g2 : Gr w w2 (.slice (some ⟨w.heap.size, 0, none⟩) 1 1) (ints .u8 [x]) := ⟨g1.row.keep k2 (fun b hb => g1.row.lt hb), g1.keep.trans (k2.mono (fun b h => Nat.lt_of_lt_of_le h z1)), g1.own⟩
  have HA := hid (g2.app 32 _ _ c2 (ints_one _ _) (by rw [ints_length, ints_length, be8_len]; simp))
  clear g1 g2 k2 h2 c2 z1
  go_wp2_with (first
    | (at_builtin; refine wpList_app rfl (.tmp 12) (.tmp 14) 32 32 rfl _ HA.out ?_; rintro v3 w3 g3; have HB := hid ((g3.alloc (.cells (ints .u8 [y]).toArray 5)).app 32 _ _ (cells_made w3 5 (fun _ => True) (ints .u8 [y]) trivial (by simp [ints])) (ints_one _ _) (by rw [List.length_append, ints_length, ints_length, ints_length, be8_len]; simp)); clear g3)
    | (at_builtin; refine wpList_app rfl (.tmp 16) (.tmp 19) 32 32 rfl _ HB.out ?_; rintro v4 w4 g4; have HC := hid (g4.app 32 v _ (HV.out.keep g4.keep (fun _ h => h)) (ints_one _ _) (by rw [List.length_append, List.length_append, ints_length, ints_length, ints_length, ints_length, be8_len]; simp; omega)); clear g4)
    | (at_builtin; refine wpList_app rfl (.tmp 20) (.tmp 21) 32 32 rfl _ HC.out ?_; rintro v5 w5 g5; have HD := hid g5; clear g5))
  go_ret
  refine ⟨v5, rfl, ⟨?_, HD.out.own⟩, HD.out.keep, HD.out.keep.size⟩
  have e : ints .u8 (Wr.respBytes t s e more) = ints .u8 [x] ++ ints .u8 (Sha.be8 (Wr.u64 s)) ++ ints .u8 [y] ++ ints .u8 more := by
    rw [← ints_append, ← ints_append, ← ints_append]
    simp [Wr.respBytes, HX.out]
  rw [e]
  exact HD.out.row
end Go.Proofs.YtnpneippahdigaaDoor
