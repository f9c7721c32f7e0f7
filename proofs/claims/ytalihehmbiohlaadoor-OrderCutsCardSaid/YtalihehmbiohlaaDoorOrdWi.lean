/-
  Step by step: within of package stockadelaw18: races of one row that all stand in another one.
-/
import Derived.Test.YtalihehmbiohlaaDoorOrdZ
import Derived.Test.YtalihehmbiohlaaDoorLoadIf
namespace Go.Proofs.YtalihehmbiohlaaDoor
open Go.RowKit Go.Maps Go.Proofs.Mem Go.Proofs.Txt Go.Proofs.Ord Go.Proofs.Mp

theorem rcC_ne {l : List Rc} : ∀ x ∈ l.map rcC, x ≠ [] := fun x hx => by obtain ⟨e, _, rfl⟩ := List.mem_map.1 hx; simp [rcC]
set_option maxRecDepth 100000 in
set_option maxHeartbeats 8000000 in
theorem within_walk (la lb : List Rc) (va vb : Value) (w : World) (p q : Nat → Prop) (ha : AtS w p 5 va (la.map rcC)) (hb : AtS w q 5 vb (lb.map rcC)) (hsub : ∀ r ∈ la, r ∈ lb) :
    Calls Tryd.prog 13 #[va, vb] w fun e w' => e = .returned (.bool true) ∧ Keep (· < w.heap.size) w w' := by
  have HA := hid ((ha.lt rcC_ne).mono (q := fun b => b < w.heap.size) (fun _ h => h.1))
  have HB := hid ((hb.lt rcC_ne).mono (q := fun b => b < w.heap.size) (fun _ h => h.1))
  have HSUB := hid hsub
  obtain ⟨aa, ac, rfl, ha1, ha2⟩ := ha.form
  obtain ⟨ba, bc, rfl, hb1, hb2⟩ := hb.form
  rw [List.length_map] at ha1 hb1 HA HB ⊢
  rw [List.length_map]
  clear ha hb hsub
  go_enter Tryd.func13, Tryd.ntmps13
  go_wp2_with fail
  go_loopg [12] la.length (fun k s12 wr => ∃ i : Nat, i + k = la.length ∧ s12 = .int .i64 (i : Int) ∧ Keep (· < w.heap.size) w wr)
  case atStart => exact ⟨0, by omega, rfl, Keep.refl _ _⟩
  case round =>
    obtain ⟨i, hik, rfl, hin⟩ := hrel
    by_cases hlt : i < la.length
    · have l0 : (i : Int) < (la.length : Int) := by omega
      obtain ⟨x, hx⟩ : ∃ x, la[i]? = some x := ⟨_, List.getElem?_eq_getElem hlt⟩
      obtain ⟨blk, off, hva, hblk, hrg⟩ := HA.out.get i (x := rcC x) (by rw [List.getElem?_map, hx]; rfl)
      subst hva
      have RG := hid (show wr.rangeAt blk (off + i * 5) (rcC x) from fun j v hv => (hin.cell (x := ⟨blk, off + i * 5 + j, none⟩) hblk).trans (hrg j v hv))
      have HX := hid (HSUB.out x (List.mem_of_getElem? hx))
      have HI := hid (And.intro hin hik)
      have osz := rc_size x
      have o1 := rc_one x
      clear hin hik hlt hx hrg hblk
      go_upto_region 4 with (first
          | (refine wpList_load_mid rfl 56 (.tmp 14) rfl blk (off + i * 5) rfl (rcC x) _ RG.out Tryd.underlying56 rfl osz ?_)
          | (refine wpList_store_row rfl 56 (.tmp 6) (.tmp 15) rfl wr.heap.size (rcC x).toArray rfl rfl 56 _ (heap_alloc_new wr _) (by rw [List.size_toArray]; exact osz) rfl o1 ?_))
      obtain ⟨E, hE⟩ : ∃ E, wr.heap.size = E := ⟨_, rfl⟩
      refine wp_world (fun wa => Keep (· < wr.heap.size) wr wa ∧ wa.heap[wr.heap.size]? = some (.cells (rcC x).toArray 56 (0, 0)))
          ⟨((Keep.refl _ _).alloc _ (fun _ h => h)).setRow _ (by simp), heap_setRow (heap_alloc_new wr _) _⟩ ?_
      rintro wa ⟨ka, ra2⟩
      have HA1 := hid (And.intro (HI.out.1.trans (ka.mono fun b hb => Nat.lt_of_lt_of_le hb HI.out.1.size)) (And.intro (hE ▸ ra2) (show w.heap.size ≤ E by rw [← hE]; exact HI.out.1.size)))
      rw [hE]
      clear ka ra2 hE RG
      go_wp2_with fail
      obtain ⟨gk0, rfl⟩ : ∃ g : Nat, g = gk := ⟨_, rfl⟩
      obtain ⟨wo, hwo⟩ : ∃ wo : World, wo = wa := ⟨_, rfl⟩
      rw [← hwo] at HA1
      go_loopg [7, 18] lb.length (fun k s7 s18 wr => ∃ j : Nat, j + k = lb.length ∧ s18 = .int .i64 (j : Int) ∧ s7 = .bool (decide (x ∈ lb.take j)) ∧ Keep (· < w.heap.size) w wr ∧ wr.heap[E]? = some (.cells (rcC x).toArray 56 (0, 0)))
      case atStart => exact ⟨0, by omega, rfl, by simp, hwo ▸ HA1.out.1, hwo ▸ HA1.out.2.1⟩
      case round =>
        obtain ⟨j, hjk, rfl, rfl, hin, hE⟩ := hrel
        by_cases hlt : j < lb.length
        · have l1 : (j : Int) < (lb.length : Int) := by omega
          obtain ⟨y, hy⟩ : ∃ y, lb[j]? = some y := ⟨_, List.getElem?_eq_getElem hlt⟩
          have hT := hid (show decide (x ∈ lb.take (j + 1)) = (decide (x ∈ lb.take j) || decide (x = y)) by
            have hy' : lb[j] = y := by rw [List.getElem?_eq_getElem hlt] at hy; exact Option.some.inj hy
            rw [List.take_succ_eq_append_getElem hlt, hy']
            simp)
          obtain ⟨blk, off, hva, hblk, hrg⟩ := HB.out.get j (x := rcC y) (by rw [List.getElem?_map, hy]; rfl)
          subst hva
          have RG := hid (show wr.rangeAt blk (off + j * 5) (rcC y) from fun k v hv => (hin.cell (x := ⟨blk, off + j * 5 + k, none⟩) hblk).trans (hrg k v hv))
          have HJ := hid (And.intro hin (And.intro hE hjk))
          have ysz := rc_size y
          have y1 := rc_one y
          clear hin hjk hlt hy hrg hblk hE
          go_upto_region 8 with (first
              | (refine wpList_load_mid rfl 56 (.tmp 20) rfl blk (off + j * 5) rfl (rcC y) _ RG.out Tryd.underlying56 rfl ysz ?_)
              | (refine wpList_store_row rfl 56 (.tmp 9) (.tmp 21) rfl wr.heap.size (rcC y).toArray rfl rfl 56 _ (heap_alloc_new wr _) (by rw [List.size_toArray]; exact ysz) rfl y1 ?_))
          obtain ⟨F, hF⟩ : ∃ F, wr.heap.size = F := ⟨_, rfl⟩
          refine wp_world (fun wb => Keep (· < wr.heap.size) wr wb ∧ wb.heap[wr.heap.size]? = some (.cells (rcC y).toArray 56 (0, 0)))
              ⟨((Keep.refl _ _).alloc _ (fun _ h => h)).setRow _ (by simp), heap_setRow (heap_alloc_new wr _) _⟩ ?_
          rintro wb ⟨kb, rb2⟩
          have HB1 := hid (And.intro (HJ.out.1.trans (kb.mono fun b hb => Nat.lt_of_lt_of_le hb HJ.out.1.size)) (And.intro ((kb.block E (Array.getElem?_eq_some_iff.1 HJ.out.2.1).1).trans HJ.out.2.1) (hF ▸ rb2)))
          rw [hF]
          clear kb rb2 hF RG
          have hq := hid (fun w0 : World => eql_race x y w0)
          obtain ⟨t, ht⟩ : ∃ t, decide (x ∈ lb.take j) = t := ⟨_, rfl⟩
          rw [ht] at hT ⊢
          clear ht
          cases t
          · have hq1 : ∀ w0 : World, (binOp .eql 56 (.agg (rcC x).toArray) (.agg (rcC y).toArray)).run Tryd.prog w0 = .ok (.bool (decide (x = y))) w0 := hq.out
            go_wp2_with (first | refine wpList_load_row_if (by rfl) 56 (.tmp 6) rfl E rfl 56 _ (0, 0) _ HB1.out.2.1 Tryd.underlying56 rfl osz ?_ | refine wpList_load_row_if (by rfl) 56 (.tmp 9) rfl F rfl 56 _ (0, 0) _ HB1.out.2.2 Tryd.underlying56 rfl ysz ?_)
            go_roundg (gk - 1)
            case measure => have := HJ.out.2.2; omega
            case rel => exact ⟨j + 1, by have := HJ.out.2.2; omega, by go_num, by rw [hT.out]; rfl, HB1.out.1, HB1.out.2.1⟩
          · go_wp2_with fail
            go_roundg (gk - 1)
            case measure => have := HJ.out.2.2; omega
            case rel => exact ⟨j + 1, by have := HJ.out.2.2; omega, by go_num, by rw [hT.out]; rfl, HB1.out.1, HB1.out.2.1⟩
        · obtain rfl : lb.length = j := by omega
          rw [List.take_length, decide_eq_true HX.out]
          have HJ := hid hin
          clear hjk hlt hin hE
          go_wp2_with fail
          go_roundg (gk0 - 1)
          case measure => have := HI.out.2; omega
          case rel => exact ⟨i + 1, by have := HI.out.2; omega, by go_num, HJ.out⟩
    · obtain rfl : la.length = i := by omega
      go_wp2_with fail
      go_ret
      exact ⟨rfl, hin⟩
end Go.Proofs.YtalihehmbiohlaaDoor
