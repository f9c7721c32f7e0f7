/-
  Step by step: ReportRooms.
-/
import Derived.Test.YtnpneippahdigaaDoorRepR
namespace Go.Proofs.Mem
open Go
theorem Cells.blk_of {w : World} {p : Nat → Prop} {a : Option Addr} {n c : Nat} {cs : List Value} (h : Cells w p (.slice a n c) cs) (h0 : 0 < cs.length) :
    ∃ blk off, a = some ⟨blk, off, none⟩ ∧ p blk ∧ ∀ i, i < cs.length → w.cell? ⟨blk, off + i, none⟩ = cs[i]? := by
  obtain ⟨a', len, cap, e, h1, _, _, h4⟩ := h
  cases e
  subst h1
  exact h4 h0
end Go.Proofs.Mem
namespace Go.Proofs.YtnpneippahdigaaDoor
open Go.RowKit Go.Maps Go.Proofs.Mem Go.Proofs.Txt Go.Proofs.Mp

theorem i64_wf3 {n : Int} (h : (Lit.int .i64 n).wf = true) : -9223372036854775808 ≤ n ∧ n ≤ 9223372036854775807 := by
  simp [Lit.wf, IntKind.min, IntKind.max, IntKind.signed, IntKind.bits] at h
  omega
/-- the report that is added. -/
def finRep : Rp.Rep := ⟨1, 0, 0, 0, 0, 0, []⟩
theorem finRep_ok : Rp.ok finRep = true := by decide
/-- at a round's head. -/
structure Rooms (w0 : World) (S M X : Nat) (wr : World) (i : Nat) (last : Int) (m : Tab) (f : Int → Option Rp.Rep) : Prop where
  sto : StoreAt wr S M last m
  ent : EntsAt wr (fun b => b ≠ S ∧ b ≠ M) m f
  low : 0 ≤ last ∧ last ≤ i
  len : m.length ≤ 8
  new : ∀ k, last < k → mget m k = none
  keep : Keep (· < w0.heap.size) w0 wr
  x : wr.heap[X]? = some (.cells (rpC finRep (.slice none 0 0)).toArray 26 (0, 0))

set_option maxRecDepth 100000 in
set_option maxHeartbeats 8000000 in
theorem reportRooms_walk (u : Value) (adds : Int) (ds : List Int) (es : List Addr) (w : World) (p : Nat → Prop) (hwa : (Lit.int .i64 adds).wf = true) (hwd : ∀ x ∈ ds, (Lit.int .i64 x).wf = true) (hes : ErrsAt w errGs es) (hnd : es.Nodup) (hu : Cells w p u (ds.map (Value.int .i64))) :
    Calls Tryd.prog 13 #[.int .i64 adds, u] w fun e w' => e = .returned (.bool true) ∧ Keep (· < w.heap.size) w w' := by
  obtain ⟨q, hq, hqc, hql⟩ := ev_at hes 8 2 rfl
  obtain ⟨qf, hqf, hqfc, hqfl⟩ := ev_at hes 6 8 rfl
  obtain ⟨qn, hqn, hqnc, hqnl⟩ := ev_at hes 7 9 rfl
  have HES := hid hes
  have HND := hid hnd
  have HQF := hid hqf
  have HU := hid (hu.lt.mono (q := fun b => b < w.heap.size) (fun _ h => h.1))
  have HWD := hid hwd
  have HWA := hid (i64_wf3 hwa)
  obtain ⟨a1, n1, c1, rfl, e1, m1, q1, _⟩ := hu
  rw [List.length_map] at e1
  subst e1
  have q1' : c1 ≤ 9223372036854775807 := by simpa [maxLen] using q1
  have NUM := hid (show ∀ w0 : World, Keep (· < w.heap.size) w w0 → Calls Tryd.prog 19 #[.iface 217 (.pointer (some qf))] w0 fun e w' => e = .returned (.int .i64 7) ∧ Keep (· < w0.heap.size) w0 w' from fun w0 k0 => num_at es 6 qf w0 (HES.out.keep k0 (fun _ h => h)) HND.out HQF.out)
  have CODE := hid (show ∀ w0 : World, Keep (· < w.heap.size) w w0 → w0.cell? ⟨2, 0, none⟩ = some (.iface 217 (.pointer (some q))) ∧ 2 < w0.heap.size from fun w0 k0 => ⟨(k0.cell (x := ⟨2, 0, none⟩) hql).trans hqc, Nat.lt_of_lt_of_le hql k0.size⟩)
  have FULL := hid (show ∀ w0 : World, Keep (· < w.heap.size) w w0 → w0.cell? ⟨8, 0, none⟩ = some (.iface 217 (.pointer (some qf))) ∧ 8 < w0.heap.size from fun w0 k0 => ⟨(k0.cell (x := ⟨8, 0, none⟩) hqfl).trans hqfc, Nat.lt_of_lt_of_le hqfl k0.size⟩)
  have NONE := hid (show ∀ w0 : World, Keep (· < w.heap.size) w w0 → w0.cell? ⟨9, 0, none⟩ = some (.iface 217 (.pointer (some qn))) ∧ 9 < w0.heap.size from fun w0 k0 => ⟨(k0.cell (x := ⟨9, 0, none⟩) hqnl).trans hqnc, Nat.lt_of_lt_of_le hqnl k0.size⟩)
  have eu := u64_wrap adds
  obtain ⟨x, hx⟩ : ∃ x, Wr.u64 adds = x := ⟨_, rfl⟩
  rw [hx] at eu
  obtain ⟨m, hm⟩ : ∃ m : Nat, x % 30 = m := ⟨_, rfl⟩
  have hmL : m < 30 := by rw [← hm]; exact Nat.mod_lt _ (by decide)
  have hm' : (x : Int) % 30 = (m : Int) := by omega
  have hm2 : (x : Int).tmod 30 = (m : Int) := by rw [Int.tmod_eq_emod_of_nonneg (by omega)]; exact hm'
  have em : IntKind.i64.wrap (m : Int) = (m : Int) := IntWalk.i64_in _ (by omega)
  clear hes hnd hq hqf hqn hqc hqfc hqnc hql hqfl hqnl hwa hwd q1 hx hm
  go_enter Tryd.func13, Tryd.ntmps13
  go_wp2_with fail
  refine (alive20_walk _ _ (CODE.out _ (Keep.refl _ _)).1 (CODE.out _ (Keep.refl _ _)).2).mono ?_
  rintro e w1 ⟨rfl, k1⟩
  have K1 := hid k1
  clear k1
  go_wp2_with fail
  refine (snew_walk w1).mono ?_
  rintro e w2 ⟨rfl, hs2, k2⟩
  have H2 := hid (And.intro hs2 k2)
  clear hs2 k2 eu hm2 hm' em
  have hi := rp_size finRep (.slice none 0 0)
  have h1 := rp_one finRep none 0 0
  have hold : (rpC noRep (.slice none 0 0)).toArray.size = (rpC finRep (.slice none 0 0)).toArray.size := rfl
  go_upto_region 7 with (refine wpList_store_row rfl 26 (.tmp 6) (.tmp 20) rfl w2.heap.size (rpC finRep (.slice none 0 0)).toArray rfl rfl 26 _ (heap_alloc_new w2 _) hi hold h1 ?_)
  refine wp_world (fun w3 => StoreAt w3 (w1.heap.size + 1) w1.heap.size 0 [] ∧ Keep (· < w1.heap.size) w1 w3 ∧ w3.heap[w2.heap.size]? = some (.cells (rpC finRep (.slice none 0 0)).toArray 26 (0, 0)))
    ⟨H2.out.1.keep (p := (· < w2.heap.size)) (((Keep.refl _ _).alloc _ (fun _ h => h)).setRow _ (by simp)) H2.out.1.lt.1 H2.out.1.lt.2, (H2.out.2.trans (((Keep.refl (· < w2.heap.size) _).alloc _ (fun _ h => h)).mono (fun k h => Nat.lt_of_lt_of_le h H2.out.2.size))).setRow _ (by have := H2.out.2.size; omega), heap_setRow (heap_alloc_new w2 _) _⟩ ?_
  rintro w3 ⟨hs3, k3, hx3⟩
  have HX := hid (show w1.heap.size + 1 < w2.heap.size from H2.out.1.lt.1)
  obtain ⟨S, hS⟩ : ∃ S, w1.heap.size + 1 = S := ⟨_, rfl⟩
  obtain ⟨M, hM⟩ : ∃ M, w1.heap.size = M := ⟨_, rfl⟩
  obtain ⟨X, hX⟩ : ∃ X, w2.heap.size = X := ⟨_, rfl⟩
  have H3 := hid (show Rooms w1 S M X w3 0 0 [] (fun _ => none) from ⟨by rw [← hS, ← hM]; exact hs3, fun k => .inl ⟨rfl, rfl⟩, ⟨Int.le_refl _, Int.le_refl _⟩, Nat.zero_le _, fun _ _ => rfl, k3, by rw [← hX]; exact hx3⟩)
  have HX := hid (show S ≠ X ∧ M ≠ X ∧ w1.heap.size ≤ S ∧ w1.heap.size ≤ M ∧ w1.heap.size ≤ X by have := HX.out; omega)
  rw [hS, hX]
  clear hs3 k3 hx3 hold h1 hS hM hX
  go_wp2_with fail
  go_loopg [7, 8, 22] m (fun k s7 s8 s22 wr => ∃ (i L : Nat) (last : Int) (tab : Tab) (f : Int → Option Rp.Rep), i + k = m ∧ s22 = .int .i64 (i : Int) ∧ s7 = .int .i64 last ∧ s8 = .int .i64 (L : Int) ∧ tab.length = L ∧ Rooms w1 S M X wr i last tab f)
  case atStart => exact ⟨0, 0, 0, [], _, by omega, rfl, rfl, rfl, rfl, H3.out⟩
  case round =>
    obtain ⟨i, L, last, tab, f, hik, rfl, rfl, rfl, hLn, hR⟩ := hrel
    have HR := hid hR
    have HIK := hid hik
    have HL := hid hLn
    have KW := hid (K1.out.trans (hR.keep.mono (fun b h => Nat.lt_of_lt_of_le h K1.out.size)))
    have lw := hR.low
    have hL8 : L ≤ 8 := by rw [← hLn]; exact hR.len
    clear hR hLn
    by_cases hlt : i < m
    · have l0 : (i : Int) < (m : Int) := by omega
      have li : (i : Int) < 30 := by omega
      have HIM := hid hlt
      clear hik hlt
      go_wp2_with (refine wpList_load_row rfl 26 (.tmp 6) rfl X rfl 26 _ (0, 0) _ HR.out.x Tryd.underlying26 rfl hi ?_)
      by_cases h8 : L = 8
      · have e8 : ((L : Int) == 8) = true := by simp; omega
        refine (sadd_full S M last tab finRep (.slice none 0 0) _ _ wr (fun _ => True) HR.out.sto (RacesAt.nil _ _) (CODE.out _ KW.out).1 (CODE.out _ KW.out).2 (FULL.out _ KW.out).1 (FULL.out _ KW.out).2 finRep_ok (by rw [HL.out]; omega)).mono ?_
        rintro e w4 ⟨rfl, k4⟩
        have K4 := hid k4
        have KW4 := hid (KW.out.trans (k4.mono (fun b h => Nat.lt_of_lt_of_le h KW.out.size)))
        have H8 := hid h8
        clear k4 h8
        go_wp2_with fail
        refine (NUM.out _ KW4.out).mono ?_
        rintro e w5 ⟨rfl, k5⟩
        have K5 := hid (K4.out.trans (k5.mono (fun b h => Nat.lt_of_lt_of_le h K4.out.size)))
        clear k5
        have hst := HR.out.sto.lt
        have hst5 := HR.out.sto.keep K5.out hst.1 hst.2
        have hx5 := (K5.out.block X (Array.getElem?_eq_some_iff.1 HR.out.x).1).trans HR.out.x
        have hen5 := HR.out.ent.keep K5.out (fun b hb _ => hb)
        have hke5 := HR.out.keep.trans (K5.out.mono (fun k h => Nat.lt_of_lt_of_le h HR.out.keep.size))
        have HN := hid (show Rooms w1 S M X w5 (i + 1) last tab f from ⟨hst5, hen5, ⟨HR.out.low.1, by have := HR.out.low.2; omega⟩, HR.out.len, HR.out.new, hke5, hx5⟩)
        clear hst hst5 hx5 hen5 hke5 HR
        go_wp2_with fail
        refine (sfull_walk S M last tab true w5 HN.out.sto (by have := HL.out; have := H8.out; simp; omega)).mono ?_
        rintro e w6 ⟨rfl, rfl⟩
        go_upto_region 17 with fail
        have lw := HN.out.low
        have HLN := hid HL.out
        have KN := hid (K1.out.trans (HN.out.keep.mono (fun b h => Nat.lt_of_lt_of_le h K1.out.size)))
        have hin := HN.out.len
        rw [HLN.out] at hin
        by_cases hid1 : i < ds.length
        · have d0 : (i : Int) < (ds.length : Int) := by omega
          have d1 : decide (i < ds.length) = true := by simp; omega
          obtain ⟨blk, off, ha1, _, hcell⟩ := (HU.out.keep KN.out (fun _ h => h)).blk_of (by rw [List.length_map]; omega)
          subst ha1
          obtain ⟨d, hd⟩ : ∃ d, ds.getD i 0 = d := ⟨_, rfl⟩
          have hdm : d ∈ ds := by rw [← hd, List.getD_eq_getElem?_getD, List.getElem?_eq_getElem hid1]; exact List.getElem_mem _
          have cd : w5.cell? ⟨blk, off + i, none⟩ = some (.int .i64 d) := by
            rw [hcell i (by rw [List.length_map]; exact hid1), List.getElem?_map, List.getElem?_eq_getElem hid1, ← hd, List.getD_eq_getElem?_getD, List.getElem?_eq_getElem hid1]; rfl
          have HDM := hid (And.intro hdm hid1)
          clear hcell hd hdm hid1
          go_wp2_with fail
          refine (sdelete_walk S M last tab f d _ w5 _ HN.out.sto HN.out.ent (HWD.out d HDM.out.1) (NONE.out _ KN.out).1 (NONE.out _ KN.out).2).mono ?_
          rintro e w8 ⟨rfl, hs8, k8⟩
          obtain ⟨T, hT⟩ : ∃ T, (f d).isSome = T := ⟨_, rfl⟩
          obtain ⟨_, _, _, hsm, _⟩ := HN.out.ent.val d
          have hlen := length_del (HN.out.sto.map.rising int_keys) d
          rw [hsm, hT, HLN.out] at hlen
          have hx8 := (k8.block X ⟨(Array.getElem?_eq_some_iff.1 HN.out.x).1, fun e => HX.out.2.1 e.symm⟩).trans HN.out.x
          have hke8 : Keep (· < w1.heap.size) w1 w8 := HN.out.keep.trans (k8.mono (fun k h => ⟨Nat.lt_of_lt_of_le h HN.out.keep.size, fun e => by have := HX.out.2.2.2.1; omega⟩))
          have hen8 := (HN.out.ent.keep k8 (fun b hb h => ⟨hb, h.2⟩)).del d
          have hnew8 : ∀ k, last < k → mget (mdel tab d) k = none := fun k hk => by rw [mget_del]; split; rfl; exact HN.out.new k hk
          have HN8 := hid (show Rooms w1 S M X w8 (i + 1) last (mdel tab d) _ from ⟨hs8, hen8, HN.out.low, Nat.le_trans (length_del_le _ _) HN.out.len, hnew8, hke8, hx8⟩)
          have HLE := hid hlen
          rw [hT]
          clear hs8 k8 hsm hx8 hke8 hen8 hnew8 hT cd HN
          cases T with
          | true =>
            simp only [if_true] at hlen
            go_upto_region 19 with fail
            have hlen2 : (mdel tab d).length = (L - 1) := by omega
            have HL2 := hid hlen2
            clear hlen2
            go_wp2_with fail
            refine (slist_walk S M last (mdel tab d) w8 HN8.out.sto (by rw [HL2.out]; omega)).mono ?_
            rintro e w9 ⟨v, rfl, hrow, hown, k9⟩
            obtain ⟨av, cv, rfl⟩ := hrow.form
            simp only [List.length_map]
            rw [HL2.out]
            have hst := HN8.out.sto.lt
            have hst9 := HN8.out.sto.keep k9 hst.1 hst.2
            have hx9 := (k9.block X (Array.getElem?_eq_some_iff.1 HN8.out.x).1).trans HN8.out.x
            have hen9 := HN8.out.ent.keep k9 (fun b hb _ => hb)
            have hke9 := HN8.out.keep.trans (k9.mono (fun k h => Nat.lt_of_lt_of_le h HN8.out.keep.size))
            have HN9 := hid (show Rooms w1 S M X w9 (i + 1) last (mdel tab d) _ from ⟨hst9, hen9, HN8.out.low, HN8.out.len, HN8.out.new, hke9, hx9⟩)
            clear hrow hown k9 hst hst9 hx9 hen9 hke9
            go_wp2_with fail
            go_roundg (gk - 1)
            case measure => have := HIK.out; have := HIM.out; omega
            case rel => exact ⟨i + 1, (L - 1), last, (mdel tab d), _, by have := HIK.out; have := HIM.out; omega, by go_num, rfl, by go_num, HL2.out, HN9.out⟩
          | false =>
            simp only [Bool.false_eq_true, if_false, Nat.add_zero] at hlen
            go_upto_region 19 with fail
            have hlen2 : (mdel tab d).length = L := hlen
            have HL2 := hid hlen2
            clear hlen2
            go_wp2_with fail
            refine (slist_walk S M last (mdel tab d) w8 HN8.out.sto (by rw [HL2.out]; omega)).mono ?_
            rintro e w9 ⟨v, rfl, hrow, hown, k9⟩
            obtain ⟨av, cv, rfl⟩ := hrow.form
            simp only [List.length_map]
            rw [HL2.out]
            have hst := HN8.out.sto.lt
            have hst9 := HN8.out.sto.keep k9 hst.1 hst.2
            have hx9 := (k9.block X (Array.getElem?_eq_some_iff.1 HN8.out.x).1).trans HN8.out.x
            have hen9 := HN8.out.ent.keep k9 (fun b hb _ => hb)
            have hke9 := HN8.out.keep.trans (k9.mono (fun k h => Nat.lt_of_lt_of_le h HN8.out.keep.size))
            have HN9 := hid (show Rooms w1 S M X w9 (i + 1) last (mdel tab d) _ from ⟨hst9, hen9, HN8.out.low, HN8.out.len, HN8.out.new, hke9, hx9⟩)
            clear hrow hown k9 hst hst9 hx9 hen9 hke9
            go_wp2_with fail
            go_roundg (gk - 1)
            case measure => have := HIK.out; have := HIM.out; omega
            case rel => exact ⟨i + 1, L, last, (mdel tab d), _, by have := HIK.out; have := HIM.out; omega, by go_num, rfl, by go_num, HL2.out, HN9.out⟩
        · have d1 : decide (i < ds.length) = false := by simp; omega
          clear hid1
          go_upto_region 19 with fail
          have hlen2 : (tab).length = L := HLN.out
          have HN8 := hid HN.out
          have HL2 := hid hlen2
          clear hlen2
          go_wp2_with fail
          refine (slist_walk S M last (tab) w5 HN8.out.sto (by rw [HL2.out]; omega)).mono ?_
          rintro e w9 ⟨v, rfl, hrow, hown, k9⟩
          obtain ⟨av, cv, rfl⟩ := hrow.form
          simp only [List.length_map]
          rw [HL2.out]
          have hst := HN8.out.sto.lt
          have hst9 := HN8.out.sto.keep k9 hst.1 hst.2
          have hx9 := (k9.block X (Array.getElem?_eq_some_iff.1 HN8.out.x).1).trans HN8.out.x
          have hen9 := HN8.out.ent.keep k9 (fun b hb _ => hb)
          have hke9 := HN8.out.keep.trans (k9.mono (fun k h => Nat.lt_of_lt_of_le h HN8.out.keep.size))
          have HN9 := hid (show Rooms w1 S M X w9 (i + 1) last (tab) _ from ⟨hst9, hen9, HN8.out.low, HN8.out.len, HN8.out.new, hke9, hx9⟩)
          clear hrow hown k9 hst hst9 hx9 hen9 hke9
          go_wp2_with fail
          go_roundg (gk - 1)
          case measure => have := HIK.out; have := HIM.out; omega
          case rel => exact ⟨i + 1, L, last, (tab), _, by have := HIK.out; have := HIM.out; omega, by go_num, rfl, by go_num, HL2.out, HN9.out⟩
      · have e8 : ((L : Int) == 8) = false := by simp; omega
        have hL7 : L ≤ 7 := by omega
        refine (sadd_good S M last tab finRep (.slice none 0 0) _ wr (fun _ => False) HR.out.sto (RacesAt.nil _ _) (CODE.out _ KW.out).1 (CODE.out _ KW.out).2 finRep_ok (fun b h => h.elim) (by rw [HL.out]; omega) lw.1 (by omega)).mono ?_
        rintro e w4 ⟨v4, rfl, hs4, hv4, k4⟩
        have hlm : last ≤ 29 := by omega
        have n4 : ¬ last + 1 ≤ last := by omega
        have hn4 : decide (last + 1 ≤ last) = false := by simp; omega
        have hkw : Keep (fun k => k < wr.heap.size ∧ k ≠ S ∧ k ≠ M) wr w4 := k4
        have hx4 := (k4.block X ⟨(Array.getElem?_eq_some_iff.1 HR.out.x).1, fun e => HX.out.1 e.symm, fun e => HX.out.2.1 e.symm⟩).trans HR.out.x
        have hke4 : Keep (· < w1.heap.size) w1 w4 := HR.out.keep.trans (k4.mono (fun k h => ⟨Nat.lt_of_lt_of_le h HR.out.keep.size, by have := HX.out.2.2.1; omega, by have := HX.out.2.2.2.1; omega⟩))
        have hsl := HR.out.sto.lt
        have hen4 := (HR.out.ent.keep k4 (fun b hb h => ⟨hb, h⟩)).put (last + 1) finRep v4 (hv4.mono (fun b hb => by omega))
        have hno : mget tab (last + 1) = none := HR.out.new _ (by omega)
        have hlen4 : (mput tab (last + 1) (repV finRep v4)).length = L + 1 := by
          rw [length_put (HR.out.sto.map.rising int_keys), hno, HL.out]; rfl
        have hnew4 : ∀ k, last + 1 < k → mget (mput tab (last + 1) (repV finRep v4)) k = none := fun k hk => by
          rw [mget_put, if_neg (by omega)]; exact HR.out.new k (by omega)
        have HN := hid (show Rooms w1 S M X w4 (i + 1) (last + 1) (mput tab (last + 1) (repV finRep v4)) _ from ⟨hs4, hen4, ⟨by omega, by omega⟩, by rw [hlen4]; omega, hnew4, hke4, hx4⟩)
        have HLN := hid hlen4
        clear hs4 hv4 k4 hkw hx4 hke4 hsl hen4 hno hlen4 hnew4 HR h8
        go_upto_region 17 with fail
        have KN := hid (K1.out.trans (HN.out.keep.mono (fun b h => Nat.lt_of_lt_of_le h K1.out.size)))
        have hin := HN.out.len
        rw [HLN.out] at hin
        by_cases hid1 : i < ds.length
        · have d0 : (i : Int) < (ds.length : Int) := by omega
          have d1 : decide (i < ds.length) = true := by simp; omega
          obtain ⟨blk, off, ha1, _, hcell⟩ := (HU.out.keep KN.out (fun _ h => h)).blk_of (by rw [List.length_map]; omega)
          subst ha1
          obtain ⟨d, hd⟩ : ∃ d, ds.getD i 0 = d := ⟨_, rfl⟩
          have hdm : d ∈ ds := by rw [← hd, List.getD_eq_getElem?_getD, List.getElem?_eq_getElem hid1]; exact List.getElem_mem _
          have cd : w4.cell? ⟨blk, off + i, none⟩ = some (.int .i64 d) := by
            rw [hcell i (by rw [List.length_map]; exact hid1), List.getElem?_map, List.getElem?_eq_getElem hid1, ← hd, List.getD_eq_getElem?_getD, List.getElem?_eq_getElem hid1]; rfl
          have HDM := hid (And.intro hdm hid1)
          clear hcell hd hdm hid1
          go_wp2_with fail
          refine (sdelete_walk S M (last + 1) (mput tab (last + 1) (repV finRep v4)) (fun j => if last + 1 = j then some finRep else f j) d _ w4 _ HN.out.sto HN.out.ent (HWD.out d HDM.out.1) (NONE.out _ KN.out).1 (NONE.out _ KN.out).2).mono ?_
          rintro e w8 ⟨rfl, hs8, k8⟩
          obtain ⟨T, hT⟩ : ∃ T, ((fun j => if last + 1 = j then some finRep else f j) d).isSome = T := ⟨_, rfl⟩
          obtain ⟨_, _, _, hsm, _⟩ := HN.out.ent.val d
          have hlen := length_del (HN.out.sto.map.rising int_keys) d
          rw [hsm, hT, HLN.out] at hlen
          have hx8 := (k8.block X ⟨(Array.getElem?_eq_some_iff.1 HN.out.x).1, fun e => HX.out.2.1 e.symm⟩).trans HN.out.x
          have hke8 : Keep (· < w1.heap.size) w1 w8 := HN.out.keep.trans (k8.mono (fun k h => ⟨Nat.lt_of_lt_of_le h HN.out.keep.size, fun e => by have := HX.out.2.2.2.1; omega⟩))
          have hen8 := (HN.out.ent.keep k8 (fun b hb h => ⟨hb, h.2⟩)).del d
          have hnew8 : ∀ k, (last + 1) < k → mget (mdel (mput tab (last + 1) (repV finRep v4)) d) k = none := fun k hk => by rw [mget_del]; split; rfl; exact HN.out.new k hk
          have HN8 := hid (show Rooms w1 S M X w8 (i + 1) (last + 1) (mdel (mput tab (last + 1) (repV finRep v4)) d) _ from ⟨hs8, hen8, HN.out.low, Nat.le_trans (length_del_le _ _) HN.out.len, hnew8, hke8, hx8⟩)
          have HLE := hid hlen
          rw [hT]
          clear hs8 k8 hsm hx8 hke8 hen8 hnew8 hT cd HN
          cases T with
          | true =>
            simp only [if_true] at hlen
            go_upto_region 19 with fail
            have hlen2 : (mdel (mput tab (last + 1) (repV finRep v4)) d).length = ((L + 1) - 1) := by omega
            have HL2 := hid hlen2
            clear hlen2
            go_wp2_with fail
            refine (slist_walk S M (last + 1) (mdel (mput tab (last + 1) (repV finRep v4)) d) w8 HN8.out.sto (by rw [HL2.out]; omega)).mono ?_
            rintro e w9 ⟨v, rfl, hrow, hown, k9⟩
            obtain ⟨av, cv, rfl⟩ := hrow.form
            simp only [List.length_map]
            rw [HL2.out]
            have hst := HN8.out.sto.lt
            have hst9 := HN8.out.sto.keep k9 hst.1 hst.2
            have hx9 := (k9.block X (Array.getElem?_eq_some_iff.1 HN8.out.x).1).trans HN8.out.x
            have hen9 := HN8.out.ent.keep k9 (fun b hb _ => hb)
            have hke9 := HN8.out.keep.trans (k9.mono (fun k h => Nat.lt_of_lt_of_le h HN8.out.keep.size))
            have HN9 := hid (show Rooms w1 S M X w9 (i + 1) (last + 1) (mdel (mput tab (last + 1) (repV finRep v4)) d) _ from ⟨hst9, hen9, HN8.out.low, HN8.out.len, HN8.out.new, hke9, hx9⟩)
            clear hrow hown k9 hst hst9 hx9 hen9 hke9
            go_wp2_with fail
            go_roundg (gk - 1)
            case measure => have := HIK.out; have := HIM.out; omega
            case rel => exact ⟨i + 1, ((L + 1) - 1), (last + 1), (mdel (mput tab (last + 1) (repV finRep v4)) d), _, by have := HIK.out; have := HIM.out; omega, by go_num, rfl, by go_num, HL2.out, HN9.out⟩
          | false =>
            simp only [Bool.false_eq_true, if_false, Nat.add_zero] at hlen
            go_upto_region 19 with fail
            have hlen2 : (mdel (mput tab (last + 1) (repV finRep v4)) d).length = (L + 1) := hlen
            have HL2 := hid hlen2
            clear hlen2
            go_wp2_with fail
            refine (slist_walk S M (last + 1) (mdel (mput tab (last + 1) (repV finRep v4)) d) w8 HN8.out.sto (by rw [HL2.out]; omega)).mono ?_
            rintro e w9 ⟨v, rfl, hrow, hown, k9⟩
            obtain ⟨av, cv, rfl⟩ := hrow.form
            simp only [List.length_map]
            rw [HL2.out]
            have hst := HN8.out.sto.lt
            have hst9 := HN8.out.sto.keep k9 hst.1 hst.2
            have hx9 := (k9.block X (Array.getElem?_eq_some_iff.1 HN8.out.x).1).trans HN8.out.x
            have hen9 := HN8.out.ent.keep k9 (fun b hb _ => hb)
            have hke9 := HN8.out.keep.trans (k9.mono (fun k h => Nat.lt_of_lt_of_le h HN8.out.keep.size))
            have HN9 := hid (show Rooms w1 S M X w9 (i + 1) (last + 1) (mdel (mput tab (last + 1) (repV finRep v4)) d) _ from ⟨hst9, hen9, HN8.out.low, HN8.out.len, HN8.out.new, hke9, hx9⟩)
            clear hrow hown k9 hst hst9 hx9 hen9 hke9
            go_wp2_with fail
            go_roundg (gk - 1)
            case measure => have := HIK.out; have := HIM.out; omega
            case rel => exact ⟨i + 1, (L + 1), (last + 1), (mdel (mput tab (last + 1) (repV finRep v4)) d), _, by have := HIK.out; have := HIM.out; omega, by go_num, rfl, by go_num, HL2.out, HN9.out⟩
        · have d1 : decide (i < ds.length) = false := by simp; omega
          clear hid1
          go_upto_region 19 with fail
          have hlen2 : ((mput tab (last + 1) (repV finRep v4))).length = (L + 1) := HLN.out
          have HN8 := hid HN.out
          have HL2 := hid hlen2
          clear hlen2
          go_wp2_with fail
          refine (slist_walk S M (last + 1) ((mput tab (last + 1) (repV finRep v4))) w4 HN8.out.sto (by rw [HL2.out]; omega)).mono ?_
          rintro e w9 ⟨v, rfl, hrow, hown, k9⟩
          obtain ⟨av, cv, rfl⟩ := hrow.form
          simp only [List.length_map]
          rw [HL2.out]
          have hst := HN8.out.sto.lt
          have hst9 := HN8.out.sto.keep k9 hst.1 hst.2
          have hx9 := (k9.block X (Array.getElem?_eq_some_iff.1 HN8.out.x).1).trans HN8.out.x
          have hen9 := HN8.out.ent.keep k9 (fun b hb _ => hb)
          have hke9 := HN8.out.keep.trans (k9.mono (fun k h => Nat.lt_of_lt_of_le h HN8.out.keep.size))
          have HN9 := hid (show Rooms w1 S M X w9 (i + 1) (last + 1) ((mput tab (last + 1) (repV finRep v4))) _ from ⟨hst9, hen9, HN8.out.low, HN8.out.len, HN8.out.new, hke9, hx9⟩)
          clear hrow hown k9 hst hst9 hx9 hen9 hke9
          go_wp2_with fail
          go_roundg (gk - 1)
          case measure => have := HIK.out; have := HIM.out; omega
          case rel => exact ⟨i + 1, (L + 1), (last + 1), ((mput tab (last + 1) (repV finRep v4))), _, by have := HIK.out; have := HIM.out; omega, by go_num, rfl, by go_num, HL2.out, HN9.out⟩
    · obtain rfl : i = m := by omega
      clear hik hlt
      go_wp2_with fail
      go_ret
      exact ⟨rfl, KW.out⟩
end Go.Proofs.YtnpneippahdigaaDoor
