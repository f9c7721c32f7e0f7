/-
  Step by step: slices.Clone of a row of races.
-/
import Derived.Test.YtnpneippahdigaaDoorRepJ
import Derived.WalkSpells
namespace Go.Proofs.YtnpneippahdigaaDoor
open Go.RowKit Go.Proofs.Mem Go.Proofs.Txt

theorem races_cells_at (l : List Rp.Race) : ∀ (j : Nat) (u : Value), (l.flatMap rcC)[j]? = some u → ∃ i x r, l[i]? = some x ∧ (rcC x)[r]? = some u ∧ j = i * 5 + r := by
  induction l with
  | nil => intro j u h; simp at h
  | cons y l ih =>
    intro j u h
    have hl : (rcC y).length = 5 := by simp [rcC]
    rw [List.flatMap_cons] at h
    rcases Nat.lt_or_ge j 5 with hj | hj
    · rw [List.getElem?_append_left (by omega)] at h
      exact ⟨0, y, j, rfl, h, by omega⟩
    · rw [List.getElem?_append_right (by omega), hl] at h
      obtain ⟨i, x, r, h1, h2, h3⟩ := ih _ _ h
      exact ⟨i + 1, x, r, by simpa using h1, h2, by omega⟩
theorem RacesAt.flat {w : World} {p : Nat → Prop} {blk off n c : Nat} {l : List Rp.Race} (h : RacesAt w p (.slice (some ⟨blk, off, none⟩) n c) l) : ∀ j u, (l.flatMap rcC)[j]? = some u → w.cell? ((⟨blk, off, none⟩ : Addr).add j) = some u := by
  intro j u hj
  obtain ⟨i, x, r, h1, h2, h3⟩ := races_cells_at l j u hj
  obtain ⟨a, len, cap, e, _, _, _, hx⟩ := h
  obtain ⟨b', o', ha, _, hr⟩ := hx i x h1
  injection e with e1 _ _
  rw [← e1] at ha
  injection ha with ha
  injection ha with hb ho
  subst hb ho
  rw [addr_add, h3, ← Nat.add_assoc]
  exact hr r u h2
theorem rc_all_one (l : List Rp.Race) : ∀ y ∈ l.flatMap rcC, y.oneCell' = true := by
  intro y hy
  obtain ⟨x, _, hx⟩ := List.mem_flatMap.1 hy
  have := rc_one x
  simp only [List.all_toArray, List.all_eq_true] at this
  exact this y hx

set_option maxRecDepth 100000 in
theorem clone_races (v : Value) (l : List Rp.Race) (w : World) (p : Nat → Prop) (hl : l.length ≤ 1000000) (hv : RacesAt w p v l) :
    Calls Tryd.prog 81 #[v] w fun e w' => ∃ v', e = .returned v' ∧ OwnRaces w.heap.size w' v' l ∧ Keep (· < w.heap.size) w w' := by
  obtain ⟨a1, c1, rfl, hc1, hc2⟩ := hv.form
  obtain ⟨n1, hn⟩ : ∃ n, l.length = n := ⟨_, rfl⟩
  rw [hn] at hc1 hv ⊢
  have en := fun w0 : World => Lib.run_eql_slice_nil (P := Tryd.prog) w0 24 114 a1 n1 c1 0 0 Tryd.underlying24
  cases a1 with
  | none =>
    have h0 : n1 = 0 := by
      rcases Nat.eq_zero_or_pos n1 with h | h
      · exact h
      · obtain ⟨a, len, cap, e, _, _, _, hx⟩ := hv
        obtain ⟨_, _, h', _⟩ := hx 0 l[0] (List.getElem?_eq_getElem (by omega))
        injection e with e1 _ _
        rw [← e1] at h'
        cases h'
    have hx : l = [] := List.eq_nil_of_length_eq_zero (by omega)
    subst hx
    clear hv hn h0
    go_enter Tryd.func81, Tryd.ntmps81
    go_wp2_with fail
    go_ret
    exact ⟨_, rfl, OwnRaces.nil _ _, Keep.refl _ _⟩
  | some a =>
    obtain ⟨i0, hi, hz, hs, hy⟩ := info_parts race_info
    have k0 : Keep (· < w.heap.size) w (w.alloc (.cells #[] 114)) := (Keep.refl _ _).alloc _ (fun _ h => h)
    have hflat : ∀ j u, (l.flatMap rcC)[j]? = some u → (w.alloc (.cells #[] 114)).cell? (a.add j) = some u := by
      intro j u hj
      obtain ⟨i, x, r, h1, h2, h3⟩ := races_cells_at l j u hj
      obtain ⟨a', len, cap, e, _, _, _, hx⟩ := id hv
      obtain ⟨b', o', ha, _, _⟩ := hx i x h1
      injection e with e1 _ _
      rw [ha] at e1
      injection e1 with e1
      subst e1
      have := (hv.lt.keep (q := fun b => b < w.heap.size) k0 (fun _ h => h.1)).flat j u hj
      exact this
    have hown : (w.alloc (.cells #[] 114)).ownsRow w.heap.size 114 5 (.slice (some ⟨w.heap.size, 0, none⟩) 0 0) 0 [] :=
      ⟨rfl, .inr ⟨w.heap.size, 0, #[], rfl, Nat.le_refl _, heap_alloc_new w _, Nat.le_refl _, Nat.zero_le _, rfl, rfl⟩⟩
    have HA := hid (run_append_own (P := Tryd.prog) (w.alloc (.cells #[] 114)) w.heap.size 24 24 114 i0 raceZero 5 32 Tryd.underlying24 hi hz hs hy rfl (by decide) _ 0 [] hown a n1 c1 (l.flatMap rcC) (by rw [races_cells_length, hn]) hflat (rc_all_one l) (by unfold maxLen; omega) (by omega) (by simp))
    have HA2 : Hid (∃ v' w', (Builtin.append_ #[24, 24] 24 #[.slice (some ⟨w.heap.size, 0, none⟩) 0 0, .slice (some a) n1 c1]).run Tryd.prog (w.alloc (.cells #[] 114)) = .ok v' w' ∧ (OwnRaces w.heap.size w' v' l ∧ Keep (· < w.heap.size) w w')) := by
      obtain ⟨v', w', hr, ho, hg, _⟩ := HA.out
      refine ⟨v', w', hr, ?_, k0.trans ((Keep.refl _ _).grown hg (fun k hk => ⟨by simp; omega, fun e => by simp [Value.ownBlock] at e; omega⟩))⟩
      unfold OwnRaces
      rw [hn]
      simpa using ho
    clear hv hn hi hz hs hy k0 hflat hown HA
    go_enter Tryd.func81, Tryd.ntmps81
    go_wp2_with (at_builtin; refine wpList_app rfl (.tmp 5) (.tmp 6) 24 24 rfl _ HA2.out ?_; rintro v1 w1 ⟨r1, k1⟩)
    go_ret
    exact ⟨v1, rfl, r1, k1⟩
end Go.Proofs.YtnpneippahdigaaDoor
