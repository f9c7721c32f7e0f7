/-
  Step by step: Form of the reference.
-/
import Derived.Test.YtalihehmbiohlaaDoorOrdE
namespace Go.Proofs.YtalihehmbiohlaaDoor
open Go.RowKit Go.Proofs.Mem Go.Proofs.Txt Go.Proofs.Ord

set_option maxRecDepth 100000 in
set_option maxHeartbeats 4000000 in
theorem oform_walk (l : List Ev) (v : Value) (w : World) (p : Nat → Prop) (hv : EvsAt w p v l) :
    Calls Tryd.prog 12 #[v] w fun e w' => e = .returned (.bool (l.all Ev.ok)) ∧ Keep (· < w.heap.size) w w' := by
  have HV := hid (hv.lt.mono (q := fun b => b < w.heap.size) (fun _ h => h.1))
  obtain ⟨va, vc, rfl, hc1, hc2⟩ := hv.form
  obtain ⟨rv, hrv⟩ : ∃ rv, l.all Ev.ok = rv := ⟨_, rfl⟩
  rw [hrv]
  have HRV := hid hrv
  clear hv hrv
  go_enter Tryd.func12, Tryd.ntmps12
  go_wp2_with fail
  go_loopg [7] l.length (fun k s7 wr => ∃ i : Nat, i + k = l.length ∧ s7 = .int .i64 (i : Int) ∧ (∀ e ∈ l.take i, e.ok = true) ∧ Keep (· < w.heap.size) w wr)
  case atStart => exact ⟨0, by omega, rfl, fun e h => by simp at h, Keep.refl _ _⟩
  case round =>
    obtain ⟨i, hik, rfl, hok, hk⟩ := hrel
    have HK := hid hk
    have HOK := hid hok
    clear hk hok
    by_cases hlt : i < l.length
    · have l0 : (i : Int) < (l.length : Int) := by omega
      obtain ⟨x, hx⟩ : ∃ x, l[i] = x := ⟨_, rfl⟩
      obtain ⟨blk, off, hva, _, hrg⟩ := HV.out.get i hlt
      rw [hx] at hrg
      subst hva
      have RG := hid (show wr.rangeAt blk (off + i * 4) (evC x) from fun j v hv => (HK.out.cell (x := ⟨blk, off + i * 4 + j, none⟩) (World.block_lt_of_cell? w _ (hrg j v hv))).trans (hrg j v hv))
      have HX := hid (show l.take (i + 1) = l.take i ++ [x] by rw [List.take_succ_eq_append_getElem hlt, hx])
      have HM := hid (show x ∈ l by rw [← hx]; exact List.getElem_mem _)
      have HI := hid (And.intro hik hlt)
      have osz := ev_size x
      have o1 : (evC x).toArray.all (·.oneCell') = true := by simp [evC, Value.oneCell']
      have hspl := x.split
      obtain ⟨g, kd, obj, at_⟩ := x
      have HSP := hid hspl
      clear hrg hx hik hlt hspl
      go_upto_region 4 with (first
        | (refine wpList_load_mid rfl 25 (.tmp 9) rfl blk (off + i * 4) rfl (evC ⟨g, kd, obj, at_⟩) _ RG.out Tryd.underlying25 rfl osz ?_)
        | (refine wpList_store_row rfl 25 (.tmp 4) (.tmp 10) rfl wr.heap.size (evC ⟨g, kd, obj, at_⟩).toArray rfl rfl 25 _ (heap_alloc_new wr _) (by rw [List.size_toArray]; exact osz) rfl o1 ?_))
      obtain ⟨O, hO⟩ : ∃ O, O = wr.heap.size := ⟨_, rfl⟩
      refine wp_world (fun wa => Keep (· < wr.heap.size) wr wa ∧ wa.heap[wr.heap.size]? = some (.cells (evC ⟨g, kd, obj, at_⟩).toArray 25 (0, 0)))
        ⟨((Keep.refl _ _).alloc _ (fun _ h => h)).setRow _ (by simp), heap_setRow (heap_alloc_new wr _) _⟩ ?_
      rintro wa ⟨ka, ra⟩
      rw [← hO] at ra ⊢
      have cg : wa.cell? ⟨O, 0, none⟩ = some (.int .i64 g) := cell_at ra 0
      have ck : wa.cell? ⟨O, 1, none⟩ = some (.int .i64 kd) := cell_at ra 1
      have co : wa.cell? ⟨O, 2, none⟩ = some (.int .i64 obj) := cell_at ra 2
      have KA := hid (HK.out.trans (ka.mono (fun b h => Nat.lt_of_lt_of_le h HK.out.size)))
      clear ka ra hO
      rcases HSP.out with ⟨hno, hc⟩ | ⟨hyes, g1, g2, g3, g4, hc⟩
      · have HNO := hid hno
        have HRV' := hid (show rv = false from by
          rw [← HRV.out, Bool.eq_false_iff]
          intro h
          have := List.all_eq_true.1 h _ HM.out
          rw [HNO.out] at this
          cases this)
        clear hno
        rcases hc with c1 | ⟨c1, c2 | ⟨c2, c3 | ⟨c3, c4 | ⟨c4, rfl, c5 | ⟨c5, c6⟩⟩⟩⟩⟩
        all_goals
          simp only [] at *
          go_wp2_with fail
          go_ret
          exact ⟨by rw [HRV'.out]; rfl, KA.out⟩
      · have HYES := hid hyes
        clear hyes
        rcases hc with ⟨rfl, c5, c6⟩ | c5
        all_goals
          simp only [] at *
          go_wp2_with fail
          go_roundg (gk - 1)
          case measure => have := HI.out; omega
          case rel => exact ⟨i + 1, by have := HI.out; omega, by go_num, by
              rw [HX.out]
              intro e he
              rcases List.mem_append.1 he with h | h
              · exact HOK.out e h
              · rw [List.mem_singleton.1 h]; exact HYES.out, KA.out⟩
    · obtain rfl : i = l.length := by omega
      have hall : l.all Ev.ok = true := List.all_eq_true.2 fun e he => HOK.out e (by rw [List.take_length]; exact he)
      have HR' := hid (show rv = true by rw [← HRV.out, hall])
      clear hall hlt hik
      go_wp2_with fail
      go_ret
      exact ⟨by rw [HR'.out]; rfl, HK.out⟩
end Go.Proofs.YtalihehmbiohlaaDoor
