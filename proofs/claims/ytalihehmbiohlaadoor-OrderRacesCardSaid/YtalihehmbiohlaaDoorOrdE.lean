/-
  Events: what is in form; slices of events; what a loop's round makes of one. Step by step: order.Check, Form of the reference.
-/
import Derived.Test.YtalihehmbiohlaaDoorOrdA
namespace Go.Proofs.Ord

/-- an event. -/
structure Ev where
  g : Int
  kd : Int
  obj : Int
  at_ : Int
/-- is it in form? -/
def Ev.ok (e : Ev) : Bool := decide (0 ≤ e.g) && decide (e.g < 8) && decide (1 ≤ e.kd) && decide (e.kd ≤ 12) && (!(e.kd == 10) || (decide (0 ≤ e.obj) && decide (e.obj < 8)))
theorem Ev.split (e : Ev) : (e.ok = false ∧ (e.g < 0 ∨ (0 ≤ e.g ∧ (8 ≤ e.g ∨ (e.g < 8 ∧ (e.kd < 1 ∨ (1 ≤ e.kd ∧ (12 < e.kd ∨ (e.kd ≤ 12 ∧ e.kd = 10 ∧ (e.obj < 0 ∨ (0 ≤ e.obj ∧ 8 ≤ e.obj)))))))))))
    ∨ (e.ok = true ∧ 0 ≤ e.g ∧ e.g < 8 ∧ 1 ≤ e.kd ∧ e.kd ≤ 12 ∧ ((e.kd = 10 ∧ 0 ≤ e.obj ∧ e.obj < 8) ∨ e.kd ≠ 10)) := by
  unfold Ev.ok
  by_cases h1 : 0 ≤ e.g
  · by_cases h2 : e.g < 8
    · by_cases h3 : 1 ≤ e.kd
      · by_cases h4 : e.kd ≤ 12
        · by_cases h5 : e.kd = 10
          · by_cases h6 : 0 ≤ e.obj
            · by_cases h7 : e.obj < 8
              · right; simp [h1, h2, h5, h6, h7]
              · left; simp [h1, h2, h5, h6, h7]; omega
            · left; simp [h1, h2, h5, h6]; omega
          · right; simp [h1, h2, h3, h4, h5]
        · left; simp [h1, h2, h3, h4]; omega
      · left; simp [h1, h2, h3]; omega
    · left; simp [h1, h2]; omega
  · left; simp [h1]; omega
end Go.Proofs.Ord
namespace Go.Proofs.YtalihehmbiohlaaDoor
open Go.RowKit Go.Proofs.Mem Go.Proofs.Txt Go.Proofs.Ord

def evC (e : Ev) : List Value := [.int .i64 e.g, .int .i64 e.kd, .int .i64 e.obj, .int .i64 e.at_]
theorem ev_size (e : Ev) : (Tryd.prog.info? 25).map (·.size) = some (evC e).length := by
  have h : (Tryd.prog.info? 25).map (·.size) = some 4 := by kernel_rfl
  exact h
/-- v reads as these events. -/
def EvsAt (w : World) (p : Nat → Prop) (v : Value) (l : List Ev) : Prop :=
  ∃ a len cap, v = .slice a len cap ∧ len = l.length ∧ len ≤ cap ∧ cap ≤ maxLen ∧ ∀ i x, l[i]? = some x → ∃ blk off, a = some ⟨blk, off, none⟩ ∧ p blk ∧ w.rangeAt blk (off + i * 4) (evC x)
theorem EvsAt.keep {w w' : World} {p q : Nat → Prop} {v : Value} {l : List Ev} (h : EvsAt w p v l) (k : Keep q w w') (hq : ∀ b, p b → q b) : EvsAt w' p v l := by
  obtain ⟨a, len, cap, rfl, h1, h2, h3, h4⟩ := h
  refine ⟨a, len, cap, rfl, h1, h2, h3, fun i x hx => ?_⟩
  obtain ⟨blk, off, rfl, hp, hr⟩ := h4 i x hx
  exact ⟨blk, off, rfl, hp, fun j v hv => (k.cell (x := ⟨blk, off + i * 4 + j, none⟩) (hq _ hp)).trans (hr j v hv)⟩
theorem EvsAt.mono {w : World} {p q : Nat → Prop} {v : Value} {l : List Ev} (h : EvsAt w p v l) (hq : ∀ b, p b → q b) : EvsAt w q v l := by
  obtain ⟨a, len, cap, rfl, h1, h2, h3, h4⟩ := h
  refine ⟨a, len, cap, rfl, h1, h2, h3, fun i x hx => ?_⟩
  obtain ⟨blk, off, rfl, hp, hr⟩ := h4 i x hx
  exact ⟨blk, off, rfl, hq _ hp, hr⟩
theorem EvsAt.lt {w : World} {p : Nat → Prop} {v : Value} {l : List Ev} (h : EvsAt w p v l) : EvsAt w (fun b => b < w.heap.size ∧ p b) v l := by
  obtain ⟨a, len, cap, rfl, h1, h2, h3, h4⟩ := h
  refine ⟨a, len, cap, rfl, h1, h2, h3, fun i x hx => ?_⟩
  obtain ⟨blk, off, rfl, hp, hr⟩ := h4 i x hx
  have := hr 0 _ rfl
  exact ⟨blk, off, rfl, ⟨World.block_lt_of_cell? w _ this, hp⟩, hr⟩
theorem EvsAt.nil (w : World) (p : Nat → Prop) : EvsAt w p (.slice none 0 0) [] := ⟨none, 0, 0, rfl, rfl, Nat.le_refl _, Nat.zero_le _, fun i x h => by simp at h⟩
theorem EvsAt.form {w : World} {p : Nat → Prop} {v : Value} {l : List Ev} (h : EvsAt w p v l) : ∃ a c, v = .slice a l.length c ∧ l.length ≤ c ∧ c ≤ 9223372036854775807 := by
  obtain ⟨a, len, cap, rfl, rfl, h2, h3, _⟩ := h
  exact ⟨a, cap, rfl, h2, by simpa [maxLen] using h3⟩
theorem EvsAt.get {w : World} {p : Nat → Prop} {a : Option Addr} {n c : Nat} {l : List Ev} (h : EvsAt w p (.slice a n c) l) (i : Nat) (hi : i < l.length) : ∃ blk off, a = some ⟨blk, off, none⟩ ∧ p blk ∧ w.rangeAt blk (off + i * 4) (evC l[i]) := by
  obtain ⟨a', len, cap, e, h1, h2, h3, h4⟩ := h
  cases e
  exact h4 i _ (List.getElem?_eq_getElem hi)

set_option maxRecDepth 100000 in
set_option maxHeartbeats 4000000 in
theorem ocheck_walk (l : List Ev) (v ev : Value) (w : World) (p : Nat → Prop) (hv : EvsAt w p v l) (he : w.cell? ⟨0, 0, none⟩ = some ev) (hl : 0 < w.heap.size) :
    Calls Tryd.prog 15 #[v] w fun e w' => e = .returned (if l.all Ev.ok then .nilIface else ev) ∧ Keep (· < w.heap.size) w w' := by
  have HV := hid (hv.lt.mono (q := fun b => b < w.heap.size) (fun _ h => h.1))
  obtain ⟨va, vc, rfl, hc1, hc2⟩ := hv.form
  have HE := hid (And.intro he hl)
  obtain ⟨rv, hrv⟩ : ∃ rv, (if l.all Ev.ok = true then Value.nilIface else ev) = rv := ⟨_, rfl⟩
  rw [hrv]
  have HRV := hid hrv
  clear hv he hl hrv
  go_enter Tryd.func15, Tryd.ntmps15
  go_wp2_with fail
  go_loopg [7] l.length (fun k s7 wr => ∃ i : Nat, i + k = l.length ∧ s7 = .int .i64 (i : Int) ∧ (∀ e ∈ l.take i, e.ok = true) ∧ Keep (· < w.heap.size) w wr)
  case atStart => exact ⟨0, by omega, rfl, fun e h => by simp at h, Keep.refl _ _⟩
  case round =>
    obtain ⟨i, hik, rfl, hok, hk⟩ := hrel
    have HK := hid hk
    have HOK := hid hok
    clear hk hok
    by_cases hlt : i < l.length
    · have l0 : (i : Int) < (l.length : Int) := by omega
      obtain ⟨x, hx⟩ : ∃ x, l[i] = x := ⟨_, rfl⟩
      obtain ⟨blk, off, hva, _, hrg⟩ := HV.out.get i hlt
      rw [hx] at hrg
      subst hva
      have RG := hid (show wr.rangeAt blk (off + i * 4) (evC x) from fun j v hv => (HK.out.cell (x := ⟨blk, off + i * 4 + j, none⟩) (World.block_lt_of_cell? w _ (hrg j v hv))).trans (hrg j v hv))
      have HX := hid (show l.take (i + 1) = l.take i ++ [x] by rw [List.take_succ_eq_append_getElem hlt, hx])
      have HM := hid (show x ∈ l by rw [← hx]; exact List.getElem_mem _)
      have HI := hid (And.intro hik hlt)
      have osz := ev_size x
      have o1 : (evC x).toArray.all (·.oneCell') = true := by simp [evC, Value.oneCell']
      have hspl := x.split
      obtain ⟨g, kd, obj, at_⟩ := x
      have HSP := hid hspl
      clear hrg hx hik hlt hspl
      go_upto_region 4 with (first
        | (refine wpList_load_mid rfl 25 (.tmp 9) rfl blk (off + i * 4) rfl (evC ⟨g, kd, obj, at_⟩) _ RG.out Tryd.underlying25 rfl osz ?_)
        | (refine wpList_store_row rfl 25 (.tmp 4) (.tmp 10) rfl wr.heap.size (evC ⟨g, kd, obj, at_⟩).toArray rfl rfl 25 _ (heap_alloc_new wr _) (by rw [List.size_toArray]; exact osz) rfl o1 ?_))
      obtain ⟨O, hO⟩ : ∃ O, O = wr.heap.size := ⟨_, rfl⟩
      refine wp_world (fun wa => Keep (· < wr.heap.size) wr wa ∧ wa.heap[wr.heap.size]? = some (.cells (evC ⟨g, kd, obj, at_⟩).toArray 25 (0, 0)))
        ⟨((Keep.refl _ _).alloc _ (fun _ h => h)).setRow _ (by simp), heap_setRow (heap_alloc_new wr _) _⟩ ?_
      rintro wa ⟨ka, ra⟩
      rw [← hO] at ra ⊢
      have cg : wa.cell? ⟨O, 0, none⟩ = some (.int .i64 g) := cell_at ra 0
      have ck : wa.cell? ⟨O, 1, none⟩ = some (.int .i64 kd) := cell_at ra 1
      have co : wa.cell? ⟨O, 2, none⟩ = some (.int .i64 obj) := cell_at ra 2
      have KA := hid (HK.out.trans (ka.mono (fun b h => Nat.lt_of_lt_of_le h HK.out.size)))
      have ce : wa.cell? ⟨0, 0, none⟩ = some ev := (KA.out.cell (x := ⟨0, 0, none⟩) HE.out.2).trans HE.out.1
      clear ka ra hO
      rcases HSP.out with ⟨hno, hc⟩ | ⟨hyes, g1, g2, g3, g4, hc⟩
      · have HNO := hid hno
        have HRV' := hid (show rv = ev from by
          rw [← HRV.out, if_neg]
          intro h
          have := List.all_eq_true.1 h _ HM.out
          rw [HNO.out] at this
          cases this)
        clear hno
        rcases hc with c1 | ⟨c1, c2 | ⟨c2, c3 | ⟨c3, c4 | ⟨c4, rfl, c5 | ⟨c5, c6⟩⟩⟩⟩⟩
        all_goals
          simp only [] at *
          go_wp2_with fail
          go_ret
          exact ⟨by rw [HRV'.out]; rfl, KA.out⟩
      · have HYES := hid hyes
        clear hyes
        rcases hc with ⟨rfl, c5, c6⟩ | c5
        all_goals
          simp only [] at *
          go_wp2_with fail
          go_roundg (gk - 1)
          case measure => have := HI.out; omega
          case rel => exact ⟨i + 1, by have := HI.out; omega, by go_num, by
              rw [HX.out]
              intro e he
              rcases List.mem_append.1 he with h | h
              · exact HOK.out e h
              · rw [List.mem_singleton.1 h]; exact HYES.out, KA.out⟩
    · obtain rfl : i = l.length := by omega
      have hall : l.all Ev.ok = true := List.all_eq_true.2 fun e he => HOK.out e (by rw [List.take_length]; exact he)
      have HR' := hid (show rv = .nilIface by rw [← HRV.out, if_pos hall])
      clear hall hlt hik
      go_wp2_with fail
      go_ret
      exact ⟨by rw [HR'.out]; rfl, HK.out⟩
end Go.Proofs.YtalihehmbiohlaaDoor
