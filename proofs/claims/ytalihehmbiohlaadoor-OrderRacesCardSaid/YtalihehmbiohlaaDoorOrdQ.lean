/-
  Step by step: pipe of the watcher.
-/
import Derived.Test.YtalihehmbiohlaaDoorOrdW
namespace Go.Proofs.YtalihehmbiohlaaDoor
open Go.RowKit Go.Maps Go.Proofs.Mem Go.Proofs.Txt Go.Proofs.Ord Go.Proofs.Mp

theorem int_keys : Keyed Tryd.prog 3 := int_keyed Tryd.underlying3
theorem key_ok {k : Int} (h : (Lit.int .i64 k).wf = true) : keyOf Tryd.prog 3 (.int .i64 k) = some (.int .i64 k) := keyOf_int_mk Tryd.underlying3 h
theorem pipe_zero (w : World) : (zeroValue 84).run Tryd.prog w = .ok (.pointer none) w := by kernel_rfl
theorem OwnAt.cells {w : World} {lab : Labs} {W M1 M2 M3 : Nat} {rv : Value} {own : Nat → Nat → Nat} (h : OwnAt w lab W rv M1 M2 M3 own) :
    w.cell? ⟨W, 0, none⟩ = some rv ∧ w.cell? ⟨W, 9, none⟩ = some (.map (some M1)) ∧ w.cell? ⟨W, 10, none⟩ = some (.map (some M2)) ∧ w.cell? ⟨W, 11, none⟩ = some (.map (some M3)) := by
  obtain ⟨ov, h1, h2, _, _⟩ := h
  match ov, h1 with
  | [o0, o1, o2, o3, o4, o5, o6, o7], _ => exact ⟨cell_at h2 0, cell_at h2 9, cell_at h2 10, cell_at h2 11⟩

theorem OwnAt.slot {w : World} {lab : Labs} {W M1 M2 M3 : Nat} {rv : Value} {own : Nat → Nat → Nat} (h : OwnAt w lab W rv M1 M2 M3 own) (g : Nat) (hg : g < 8) :
    ∃ a n c, w.cell? ⟨W, 1 + g, none⟩ = some (.slice a n c) ∧ ClkAt w lab (.slice a n c) (own g) := by
  obtain ⟨ov, h1, h2, _, h4⟩ := h
  obtain ⟨x, hx⟩ : ∃ x, ov[g]? = some x := ⟨_, List.getElem?_eq_getElem (by omega)⟩
  have hc := h4 g x hx
  obtain ⟨a, n, c, rfl, _⟩ := id hc
  refine ⟨a, n, c, ?_, hc⟩
  rw [cell_at h2 (1 + g), List.append_assoc, List.getElem?_append_right (by simp), List.getElem?_append_left (by simp; omega)]
  simpa using hx
theorem ClkMap.more {w : World} {lab : Labs} {M n m : Nat} {L : Lab} {f : Int → Nat → Nat} (h : ClkMap w lab M L n f) (hm : n ≤ m) : ClkMap w lab M L m f := by
  obtain ⟨t, h1, h2, h3, h4⟩ := h
  exact ⟨t, h1, h2, Nat.le_trans h3 hm, h4⟩
theorem PipesAt.more {w : World} {lab : Labs} {M n m : Nat} {f : Int → Option Pipe} {pb : Int → Nat} (h : PipesAt w lab M n f pb) (hm : n ≤ m) : PipesAt w lab M m f pb := by
  obtain ⟨t, h1, h2, h3, h4⟩ := h
  exact ⟨t, h1, h2, Nat.le_trans h3 hm, h4⟩

set_option maxRecDepth 100000 in
set_option maxHeartbeats 4000000 in
theorem pipe_walk (B W : Nat) (rv : Value) (M1 M2 M3 n : Nat) (pb : Int → Nat) (w : World) (lab : Labs) (s : St) (c : Int) (hw : Watch B W rv M1 M2 M3 n pb w lab s) (hc : (Lit.int .i64 c).wf = true) (hn : n ≤ 1000000) :
    Calls Tryd.prog 38 #[.pointer (some ⟨W, 0, none⟩), .int .i64 c] w fun e w' => ∃ pb' lab', e = .returned (.pointer (some ⟨pb' c, 0, none⟩)) ∧ Watch B W rv M1 M2 M3 (n + 1) pb' w' lab' { s with pipe := updI s.pipe c (some (s.pp c)) } ∧ Stay (fun l => l ≠ .pi) w lab w' lab' := by
  have HW := hid hw
  have HKY := hid (key_ok hc)
  obtain ⟨c0, c9, c10, c11⟩ := hw.own.cells
  obtain ⟨t, ht, hlM, htn, hpp⟩ := hw.pipe
  have HT := hid (And.intro ht (And.intro hlM htn))
  have HP := hid (hpp c)
  have HPP := hid hpp
  clear hw hc ht hlM htn hpp c0 c9 c10
  go_enter Tryd.func38, Tryd.ntmps38
  rcases HP.out with ⟨e1, e2⟩ | ⟨p, e1, e2, e3⟩
  · have hg : (mget t c).getD (.pointer none) = .pointer none := by rw [e2]; rfl
    have HG := hid hg
    have E := hid (And.intro e1 e2)
    clear e1 e2 hg
    go_upto_region 4 with (at_lookup; refine wpList_ilook rfl (.tmp 9) (.tmp 10) 71 84 rfl int_keys Tryd.underlying71 M3 t rfl HT.out.1 c rfl HKY.out _ (pipe_zero _) ?_; rw [HG.out])
    refine wp_world (fun w1 => Keep (· < w.heap.size) w w1 ∧ w1.heap[w.heap.size]? = some (.cells #[.slice none 0 0, .slice none 0 0, .slice none 0 0] 86 (0, 0)) ∧ w.heap.size < w1.heap.size) ⟨(Keep.refl _ _).alloc _ (fun _ h => h), heap_alloc_new w _, by simp⟩ ?_
    rintro w1 ⟨k1, hb1, z1⟩
    have c11' : w1.cell? ⟨W, 11, none⟩ = some (.map (some M3)) := (k1.cell (x := ⟨W, 11, none⟩) HW.out.own.lt).trans c11
    have HM1 := hid (HT.out.1.keep k1 HT.out.1.lt)
    have htl : t.length < maxLen := by have := HT.out.2.2; unfold maxLen; omega
    have K1 := hid (And.intro k1 (And.intro hb1 z1))
    obtain ⟨O, hO⟩ : ∃ O, O = w.heap.size := ⟨_, rfl⟩
    rw [← hO]
    have HO := hid hO
    clear k1 hb1 z1 c11 hO
    go_wp2_with (refine wpList_istore rfl (.tmp 19) (.tmp 20) (.tmp 21) 71 84 rfl int_keys Tryd.underlying71 M3 t rfl HM1.out htl c rfl HKY.out (.pointer (some ⟨O, 0, none⟩)) rfl ?_; intro w6 hm6 hg6; have H6 := hid (And.intro hm6 hg6); clear hm6 hg6)
    go_ret
    have ST : Stay (fun l => l ≠ Lab.pi) w lab w6 (fun b => if b = O then .pp c else lab b) := by
      refine ⟨(K1.out.1.mono (fun b hb => hb.1)).grown H6.out.2 (fun b hb => ⟨Nat.lt_trans hb.1 K1.out.2.2, fun e => hb.2 ?_⟩), fun b hb => if_neg (by have := HO.out; omega)⟩
      have e' : b = M3 := by injection e
      rw [e']; exact HT.out.2.1
    have hM3 : M3 < w.heap.size := HT.out.1.lt
    have hO6 : w6.heap[O]? = some (.cells #[.slice none 0 0, .slice none 0 0, .slice none 0 0] 86 (0, 0)) := by
      have := (Keep.refl (fun k => k < w1.heap.size ∧ k ≠ M3) w1).grown H6.out.2 (fun k hk => ⟨hk.1, fun e => hk.2 (by injection e)⟩)
      rw [this.block O ⟨by rw [HO.out]; exact K1.out.2.2, by have := HO.out; omega⟩, HO.out]
      exact K1.out.2.1
    refine ⟨fun j => if j = c then O else pb j, fun b => if b = O then .pp c else lab b, by simp, ?_, ST⟩
    have hne : ∀ {l : Lab}, l ≠ Lab.pi → (fun l => l ≠ Lab.pi) l := fun h => h
    refine ⟨fun b hb => ?_, Nat.le_trans HW.out.size ST.keep.size, HW.out.own.stay ST (by simp) (by simp), (HW.out.mut_.stay ST (by simp) (by simp)).more (Nat.le_succ _), (HW.out.atm.stay ST (by simp) (by simp)).more (Nat.le_succ _), mput t c (.pointer (some ⟨O, 0, none⟩)), H6.out.1, ?_, ?_, fun j => ?_⟩
    · have := HW.out.size
      have h0 := HO.out
      rw [if_neg (by omega)]
      exact HW.out.old b hb
    · show (if M3 = O then Lab.pp c else lab M3) = .pi
      rw [if_neg (by have := HO.out; omega)]; exact HT.out.2.1
    · exact Nat.le_trans (length_put_le _ _ _) (Nat.succ_le_succ HT.out.2.2)
    · by_cases e : j = c
      · subst e
        refine .inr ⟨s.pp j, by simp [updI], by rw [mget_put, if_pos rfl]; simp, ?_⟩
        have : s.pp j = Pipe.new := by unfold St.pp; rw [E.out.1]; rfl
        rw [this]
        show PipeAt w6 _ j (if j = j then O else pb j) _
        rw [if_pos rfl]
        exact ⟨_, _, _, hO6, if_pos rfl, ⟨[], Row.nil _ _, fun k hk => by (cases hk), rfl, fun i x K hx => by simp at hx⟩, ⟨[], Row.nil _ _, fun k hk => by (cases hk), rfl, fun i x K hx => by simp at hx⟩, Row.nil _ _, fun k hk => by (cases hk), fun g hg => by simp [Pipe.new] at hg⟩
      · rcases HPP.out j with ⟨h1, h2⟩ | ⟨p, h1, h2, h3⟩
        · exact .inl ⟨by simp [updI, e, h1], by rw [mget_put, if_neg (fun h => e h.symm)]; exact h2⟩
        · exact .inr ⟨p, by simp [updI, e, h1], by (rw [mget_put, if_neg (fun h => e h.symm)]; show mget t j = some (.pointer (some ⟨if j = c then O else pb j, 0, none⟩)); rw [if_neg e]; exact h2), by (show PipeAt w6 _ j (if j = c then O else pb j) _; rw [if_neg e]); exact h3.stay ST (by simp) (by simp) (by simp) (by simp) (by simp)⟩
  · have E := hid (And.intro e1 (And.intro e2 e3))
    have hg : (mget t c).getD (.pointer none) = .pointer (some ⟨pb c, 0, none⟩) := by rw [e2]; rfl
    have HG := hid hg
    clear e1 e2 e3 hg
    go_wp2_with (at_lookup; refine wpList_ilook rfl (.tmp 9) (.tmp 10) 71 84 rfl int_keys Tryd.underlying71 M3 t rfl HT.out.1 c rfl HKY.out _ (pipe_zero _) ?_; rw [HG.out])
    go_ret
    have hp : updI s.pipe c (some (s.pp c)) = s.pipe := by
      funext j
      unfold updI
      split
      · next h => rw [h, E.out.1]; unfold St.pp; rw [E.out.1]; rfl
      · rfl
    refine ⟨pb, lab, rfl, ?_, Stay.refl _ _ _⟩
    rw [hp]
    exact ⟨HW.out.old, HW.out.size, HW.out.own, HW.out.mut_.more (Nat.le_succ _), HW.out.atm.more (Nat.le_succ _), HW.out.pipe.more (Nat.le_succ _)⟩
end Go.Proofs.YtalihehmbiohlaaDoor
