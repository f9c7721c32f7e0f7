/-
  Step by step: the reference's stream and clock: Next, Pick, Tick.
-/
import Derived.Test.YtjknjjcdgniodaaDoorRefWord
import Derived.Test.YtjknjjcdgniodaaDoorRefDrawP
import Derived.Test.YtjknjjcdgniodaaDoorDraw3
import Derived.Test.YtjknjjcdgniodaaDoorTxt2
namespace Go.Proofs.YtjknjjcdgniodaaDoor
open Go.RowKit Go.Proofs.Mem

/-- block m is the reference's stream and clock. -/
def ModelAt (w : World) (m hb : Nat) (vr : Value) (t n : Nat) : Prop :=
  w.heap[m]? = some (.cells #[.pointer (some ⟨hb, 0, none⟩), vr, .int .i64 (t : Int), .int .i64 (n : Int)] 77 (0, 0))
/-- what the reference's stream needs: told of the world in which it was made. -/
structure Born (wm : World) (m hb : Nat) (vr : Value) (root : List Nat) : Prop where
  len : root.length = 32
  byte : ∀ x ∈ root, x < 256
  words : WordsAt wm hb Sha.St.new.ws Sha.turns
  row : Cells wm (fun k => hb ≤ k ∧ k < m) vr (ints .u8 root)
  size : wm.heap.size = m
theorem Born.words' {wm w : World} {m hb : Nat} {vr : Value} {root : List Nat} (h : Born wm m hb vr root) (k : Keep (fun j => hb ≤ j ∧ j < m) wm w) : WordsAt w hb Sha.St.new.ws Sha.turns :=
  PairAt.keep h.words k (fun j h1 h2 => ⟨h1, by rw [← h.size]; exact h2⟩)
theorem Born.row' {wm w : World} {m hb : Nat} {vr : Value} {root : List Nat} (h : Born wm m hb vr root) (k : Keep (fun j => hb ≤ j ∧ j < m) wm w) : Cells w (fun k => hb ≤ k ∧ k < m) vr (ints .u8 root) :=
  h.row.keep k (fun _ h => h)
theorem ModelAt.lt {w : World} {m hb : Nat} {vr : Value} {t n : Nat} (h : ModelAt w m hb vr t n) : m < w.heap.size := (Array.getElem?_eq_some_iff.1 h).1
theorem ModelAt.keep {p : Nat → Prop} {w w' : World} {m hb : Nat} {vr : Value} {t n : Nat} (h : ModelAt w m hb vr t n) (k : Keep p w w') (hp : p m) : ModelAt w' m hb vr t n := (k.block m hp).trans h
theorem ModelAt.cells {w : World} {m hb : Nat} {vr : Value} {t n : Nat} (h : ModelAt w m hb vr t n) :
    w.cell? ⟨m, 0, none⟩ = some (.pointer (some ⟨hb, 0, none⟩)) ∧ w.cell? ⟨m, 1, none⟩ = some vr ∧ w.cell? ⟨m, 2, none⟩ = some (.int .i64 (t : Int)) ∧ w.cell? ⟨m, 3, none⟩ = some (.int .i64 (n : Int)) ∧ w.frozen? ⟨m, 2, none⟩ = false ∧ w.frozen? ⟨m, 3, none⟩ = false := by
  have h' : w.heap[m]? = some (.cells [.pointer (some ⟨hb, 0, none⟩), vr, .int .i64 (t : Int), .int .i64 (n : Int)].toArray 77 (0, 0)) := h
  exact ⟨cell_at h' 0, cell_at h' 1, cell_at h' 2, cell_at h' 3, frozen_at h' _, frozen_at h' _⟩
theorem ModelAt.take {w : World} {m hb : Nat} {vr : Value} {t n : Nat} (h : ModelAt w m hb vr t n) (t' : Nat) : ModelAt (w.setCell ⟨m, 2, none⟩ (.int .i64 (t' : Int))) m hb vr t' n := by
  have h' : w.heap[m]? = some (.cells [.pointer (some ⟨hb, 0, none⟩), vr, .int .i64 (t : Int), .int .i64 (n : Int)].toArray 77 (0, 0)) := h
  exact set_at h' 2 _
theorem ModelAt.tick {w : World} {m hb : Nat} {vr : Value} {t n : Nat} (h : ModelAt w m hb vr t n) (n' : Nat) : ModelAt (w.setCell ⟨m, 3, none⟩ (.int .i64 (n' : Int))) m hb vr t n' := by
  have h' : w.heap[m]? = some (.cells [.pointer (some ⟨hb, 0, none⟩), vr, .int .i64 (t : Int), .int .i64 (n : Int)].toArray 77 (0, 0)) := h
  exact set_at h' 3 _

set_option maxRecDepth 100000 in
set_option maxHeartbeats 1000000 in
theorem mnext_walk (wm : World) (m hb : Nat) (vr : Value) (root : List Nat) (t n : Nat) (w : World) (ht : t < 1152921504606846976) (hB : Born wm m hb vr root) (hk : Keep (fun j => hb ≤ j ∧ j < m) wm w) (hm : ModelAt w m hb vr t n) :
    Calls Tryd.prog 42 #[.pointer (some ⟨m, 0, none⟩)] w fun e w' => e = .returned (.int .u64 (Drw.wordN root t : Nat)) ∧ Keep (fun k => k < w.heap.size ∧ k ≠ m) w w' ∧ ModelAt w' m hb vr (t + 1) n := by
  obtain ⟨_, _, c2, _, f2, _⟩ := hm.cells
  have HM := hid hm
  have HK := hid hk
  have HB := hid hB
  clear hm hk hB
  go_enter Tryd.func42, Tryd.ntmps42
  go_wp2_with fail
  refine wp_world (fun w1 => ModelAt w1 m hb vr (t + 1) n ∧ Keep (fun k => k ≠ m) w w1) ⟨by have := HM.out.take (t + 1); rwa [Int.natCast_add] at this, (Keep.refl _ _).setCell _ (by simp)⟩ ?_
  rintro w1 ⟨hm1, k1⟩
  have cs := hm1.cells
  have H1 := hid (And.intro hm1 k1)
  have z1 := k1.size
  have hml := HM.out.lt
  clear hm1 k1 c2 f2
  refine Txt.wp_region_text [true, true, true, true, true, true, true, true, true, true, true, true, true, false, true] (fun wx => wx.cell? ⟨m, 0, none⟩ = some (.pointer (some ⟨hb, 0, none⟩)) ∧ wx.cell? ⟨m, 1, none⟩ = some vr ∧ wx.cell? ⟨m, 2, none⟩ = some (.int .i64 ((t + 1 : Nat) : Int))) (by kernel_rfl) (by kernel_rfl) ⟨cs.1, cs.2.1, cs.2.2.1⟩ ?_
  iterate 3 (refine Txt.text_free rfl (fun K hK => ?_); go_simp; refine hK _ ?_; clear hK K)
  refine Txt.text_held (.pointer (some ⟨hb, 0, none⟩)) rfl (fun w0 h0 => by have := h0.1; go_simp) (fun K hK => hK _ ?_)
  iterate 3 (refine Txt.text_free rfl (fun K hK => ?_); go_simp; refine hK _ ?_; clear hK K)
  refine Txt.text_held vr rfl (fun w0 h0 => by have := h0.2.1; go_simp) (fun K hK => hK _ ?_)
  iterate 3 (refine Txt.text_free rfl (fun K hK => ?_); go_simp; refine hK _ ?_; clear hK K)
  refine Txt.text_held (.int .i64 ((t + 1 : Nat) : Int)) rfl (fun w0 h0 => by have := h0.2.2; go_simp) (fun K hK => hK _ ?_)
  refine Txt.text_free rfl (fun K hK => ?_); go_simp; refine hK _ ?_; clear hK K
  refine Txt.text_chain rfl (fun K hK => ?_)
  go_simp
  rw [show IntKind.i64.wrap (t : Int) = (t : Int) from IntWalk.i64_in _ (by omega)]
  have K1 := hid (show Keep (fun j => hb ≤ j ∧ j < m) wm w1.drew from HK.out.trans ((H1.out.2.mono (fun k (h : hb ≤ k ∧ k < m) => by omega)).drew))
  refine (refword_walk hb vr root t w1.drew _ HB.out.len HB.out.byte (by omega) (HB.out.words' K1.out) (HB.out.row' K1.out)).mono ?_
  rintro e w2 ⟨rfl, k2⟩
  have hm2 : ModelAt w2 m hb vr (t + 1) n := ((H1.out.1.keep (Keep.refl (fun _ => True) w1).drew trivial)).keep k2 (by show m < w1.heap.size; omega)
  have cs2 := hm2.cells
  have H2 := hid (And.intro ((H1.out.2.mono (fun k (h : k < w.heap.size ∧ k ≠ m) => h.2)).trans ((Keep.refl _ w1).drew.trans (k2.mono (fun k h => by show k < w1.heap.size; omega)))) hm2)
  clear k2 hm2
  refine hK _ _ ⟨⟨cs2.1, cs2.2.1, cs2.2.2.1⟩, ?_⟩
  clear hK K
  refine Txt.text_free rfl (fun K hK => ?_); go_simp; refine hK _ ?_; clear hK K
  refine Txt.text_done ?_
  go_wp2_with fail
  go_ret
  exact ⟨rfl, H2.out.1, H2.out.2⟩

theorem mtick_bad (m hb : Nat) (vr : Value) (t n : Nat) (k : Int) (w : World) (hk : k < 0 ∨ 1099511627776 - (n : Int) < k) (hk2 : k ≤ 9223372036854775807) (hm : ModelAt w m hb vr t n) :
    Calls Tryd.prog 44 #[.pointer (some ⟨m, 0, none⟩), .int .i64 k] w fun e w' => e = .returned (.int .i64 1) ∧ w = w' := by
  obtain ⟨_, _, _, c3, _, f3⟩ := hm.cells
  clear hm
  have hk' : k < 0 ∨ (0 ≤ k ∧ 1099511627776 - (n : Int) < k) := by omega
  rcases hk' with hk | ⟨h0, h1⟩
  · go_enter Tryd.func44, Tryd.ntmps44
    go_wp2_with fail
    go_ret
    exact ⟨rfl, rfl⟩
  · have t1 : decide (1099511627776 - k < (n : Int)) = true := by simp; omega
    go_enter Tryd.func44, Tryd.ntmps44
    go_wp2_with fail
    go_ret
    exact ⟨rfl, rfl⟩
theorem mtick_good (m hb : Nat) (vr : Value) (t n k : Nat) (w : World) (hk : n + k ≤ 1099511627776) (hm : ModelAt w m hb vr t n) :
    Calls Tryd.prog 44 #[.pointer (some ⟨m, 0, none⟩), .int .i64 (k : Int)] w fun e w' => e = .returned (.int .i64 0) ∧ Keep (fun j => j ≠ m) w w' ∧ ModelAt w' m hb vr t (n + k) := by
  obtain ⟨_, _, _, c3, _, f3⟩ := hm.cells
  have HM := hid hm
  clear hm
  have t1 : decide (1099511627776 - (k : Int) < (n : Int)) = false := by simp; omega
  go_enter Tryd.func44, Tryd.ntmps44
  go_wp2_with fail
  go_ret
  refine ⟨rfl, (Keep.refl _ _).setCell _ (by simp), ?_⟩
  have := HM.out.tick (n + k)
  rwa [Int.natCast_add] at this
theorem mpick_bad (m : Nat) (k : Int) (w : World) (hk : k < 1) :
    Calls Tryd.prog 43 #[.pointer (some ⟨m, 0, none⟩), .int .i64 k] w fun e w' => e = .returned (.tuple #[.int .i64 0, .int .i64 1]) ∧ w = w' := by
  go_enter Tryd.func43, Tryd.ntmps43
  go_wp2_with fail
  go_ret2
  exact ⟨rfl, rfl⟩
theorem mpick_one (m : Nat) (w : World) :
    Calls Tryd.prog 43 #[.pointer (some ⟨m, 0, none⟩), .int .i64 1] w fun e w' => e = .returned (.tuple #[.int .i64 0, .int .i64 0]) ∧ w = w' := by
  go_enter Tryd.func43, Tryd.ntmps43
  go_wp2_with fail
  go_ret2
  exact ⟨rfl, rfl⟩

end Go.Proofs.YtjknjjcdgniodaaDoor
