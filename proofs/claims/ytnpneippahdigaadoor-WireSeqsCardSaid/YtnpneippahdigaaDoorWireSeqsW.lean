/-
  Step by step: the statement 'WireSeqs'.
-/
import Derived.Test.YtnpneippahdigaaDoorWireShortW
import Derived.Test.YtnpneippahdigaaDoorWireI
namespace Go.Proofs.YtnpneippahdigaaDoor
open Go.RowKit Go.Proofs.Mem Go.Proofs.Txt

theorem max2_ints (k k' : IntKind) (x y : Int) : Builtin.max2 (.int k x) (.int k' y) = pure (.int k (if x < y then y else x)) := by simp only [Builtin.max2]
theorem max_of_two (ats : Array TypeId) (ty : TypeId) (a b : Value) : Builtin.max_ ats ty #[a, b] = (Builtin.max2 a b >>= fun s => pure s) := by simp only [Builtin.max_, List.foldlM_cons, List.foldlM_nil]
attribute [local go_sem] max2_ints max_of_two

theorem openTag_bytes (t s : Int) (tag body : List Nat) (h : tag.length = 32) : openTag (Wr.bytes t s tag body) = tag := Wr.bytes_tag t s tag body h
theorem isFrame_bytes (t : Int) (q : Nat) (tag body : List Nat) (h : tag.length = 32) (hq : q ≤ 1099511627776) (hb : body.length ≤ 16343) : Wr.isFrame (Wr.bytes t (q : Int) tag body) = true := by
  rw [Wr.isFrame_iff, Wr.bytes_length, h, Wr.seqOf_bytes, Wr.u64_nat q (by omega)]
  omega

set_option maxRecDepth 100000 in
set_option maxHeartbeats 4000000 in
theorem wireSeqs_walk (kv sv : Value) (key : List Nat) (ss : List Int) (xs : List Addr) (w : World) (p p' : Nat → Prop) (hk : ∀ x ∈ key, x < 256) (hT : TurnsAt w) (he : ErrsAt w errGs xs) (hd : xs.Nodup) (hkv : Cells w p kv (ints .u8 key)) (hsv : Cells w p' sv (ss.map (Value.int .i64))) :
    Calls Tryd.prog 12 #[kv, sv] w fun e w' => e = .returned (.bool true) ∧ Keep (· < w.heap.size) w w' := by
  have HK := hid (hkv.lt.mono (q := fun b => b < w.heap.size) (fun _ h => h.1))
  have HSV := hid (hsv.lt.mono (q := fun b => b < w.heap.size) (fun _ h => h.1))
  have HT := hid hT
  have Hk := hid hk
  have HE := hid (And.intro he hd)
  obtain ⟨ka, kn, kc, rfl⟩ := cells_form hkv
  have hkn : kn = key.length := by
    obtain ⟨_, _, _, e, h1, _⟩ := id hkv
    injection e with _ e2 _
    rw [e2, h1, ints_length]
  obtain ⟨a1, n1, c1, rfl, e1, m1, q1, hcc⟩ := HSV.out
  rw [List.length_map] at e1
  obtain ⟨L, hL⟩ : ∃ L, ss.length = L := ⟨_, rfl⟩
  rw [hL] at e1
  subst e1
  have q1' : c1 ≤ 9223372036854775807 := by simpa [maxLen] using q1
  have HCC := hid hcc
  have HL := hid hL
  have HKN := hid hkn
  clear hkv hsv hT hk he hd hcc q1 hL hkn
  go_enter Tryd.func12, Tryd.ntmps12
  go_wp2_with fail
  refine (alive21_walk w HT.out).mono ?_
  rintro e w1 ⟨rfl, k1⟩
  have H1 := hid k1
  clear k1
  by_cases c1 : kn < 1
  · have t1 : decide ((kn : Int) < 1) = true := by simp; omega
    go_wp2_with fail
    go_ret
    exact ⟨rfl, H1.out⟩
  have t1 : decide ((kn : Int) < 1) = false := by simp; omega
  by_cases c2 : 64 < kn
  · have t2 : decide ((64 : Int) < (kn : Int)) = true := by simp; omega
    go_wp2_with fail
    go_ret
    exact ⟨rfl, H1.out⟩
  have t2 : decide ((64 : Int) < (kn : Int)) = false := by simp; omega
  by_cases c3 : 60 < n1
  · have t3 : decide ((60 : Int) < (n1 : Int)) = true := by simp; omega
    go_wp2_with fail
    go_ret
    exact ⟨rfl, H1.out⟩
  have t3 : decide ((60 : Int) < (n1 : Int)) = false := by simp; omega
  have HLK := hid (show 1 ≤ key.length ∧ key.length ≤ 64 by have := HKN.out; omega)
  clear c1 c2 c3
  go_wp2_with fail
  have z1 := H1.out.size
  refine calls_world (fun w2 => Keep (· < w1.heap.size) w1 w2 ∧ Cells w2 (fun _ => True) (.slice (some ⟨w1.heap.size, 0, none⟩) 1 1) [.slice ka kn kc]) ⟨(Keep.refl _ _).alloc _ (fun _ h => h), cells_made w1 32 (fun _ => True) [.slice ka kn kc] trivial (by simp)⟩ ?_
  rintro w2 ⟨k2, c2⟩
  have kw2 := H1.out.trans (k2.mono (fun b h => Nat.lt_of_lt_of_le h z1))
  have e2 := errs_at (HE.out.1.keep kw2 (fun _ h => h)) 0 _ rfl
  refine (wnew_walk _ [.slice ka kn kc] [key] (errV xs 1) w2 _ _ (by intro k hk; simp only [List.mem_singleton] at hk; rw [hk]; have := HLK.out; omega) c2 (Rws.cons (HK.out.keep kw2 (fun _ h => h)) (Rws.nil _ _)) e2.1 e2.2).mono ?_
  rintro e w3 ⟨h3 | h3, k3⟩
  case' inr =>
    exfalso
    have := h3.1
    rw [(okKeys_iff [key]).2 ⟨by simp, by simp, fun k hk => by simp only [List.mem_singleton] at hk; rw [hk]; exact HLK.out⟩] at this
    cases this
  obtain ⟨_, tb, g, rfl, ht⟩ := h3
  have hz2 := kw2.size
  obtain ⟨B, hB⟩ : ∃ B, w2.heap.size = B := ⟨_, rfl⟩
  obtain ⟨U, hU⟩ : ∃ U, w3.heap.size = U := ⟨_, rfl⟩
  have zB : w.heap.size ≤ B := by rw [← hB]; exact hz2
  rw [hB, hU] at ht
  have H3 := hid (And.intro (kw2.trans (k3.mono (fun b h => Nat.lt_of_lt_of_le h hz2))) ht)
  clear k2 k3 kw2 c2 e2 ht hB hU t1 t2 t3
  go_wp2_with fail
  go_loopg [7, 45] n1 (fun k s7 s45 wr => ∃ i la : Nat, i + k = n1 ∧ s45 = .int .i64 (i : Int) ∧ s7 = .int .i64 (la : Int) ∧ la ≤ 1099511627775 ∧ TableAt wr B U tb g [key] [la] ∧ Keep (· < w.heap.size) w wr)
  case atStart => exact ⟨0, 0, by omega, rfl, rfl, by decide, H3.out.2, H3.out.1⟩
  case round =>
    obtain ⟨i, la, hi, rfl, rfl, hla, htr, hkr⟩ := hrel
    have HR := hid (And.intro htr hkr)
    clear htr hkr
    by_cases hlt : i < n1
    · obtain ⟨x, hx⟩ : ∃ x, ss.getD i 0 = x := ⟨_, rfl⟩
      obtain ⟨blk, off, rfl, hp, hc⟩ := HCC.out (by omega)
      have cx : wr.cell? ⟨blk, off + i, none⟩ = some (.int .i64 x) := by
        rw [HR.out.2.cell (x := ⟨blk, off + i, none⟩) hp, hc i hlt, List.getElem?_map, List.getElem?_eq_getElem (by rw [HL.out]; exact hlt), ← hx, List.getD_eq_getElem?_getD, List.getElem?_eq_getElem (by rw [HL.out]; exact hlt)]
        rfl
      have l0 : (i : Int) < (n1 : Int) := by omega
      obtain ⟨q, hq, hql⟩ := mask40 x
      have kc := fun (w : World) => Lib.run_convert_bytes_const (P := Tryd.prog) w 32 5 #[.int .u8 120] 1 1 Tryd.underlying32 Tryd.underlying5
      clear hc hx
      go_wp2_with fail
      try rw [hq]
      clear hq
      have zr := HR.out.2.size
      refine calls_world (fun w4 => Keep (· < wr.heap.size) wr w4 ∧ Cells w4 (fun _ => True) (.slice (some ⟨wr.heap.size, 0, none⟩) 1 1) (ints .u8 [120])) ⟨(Keep.refl _ _).alloc _ (fun _ h => h), Cells.of_block (cur := ints .u8 [120]) (off := 0) (heap_alloc_new wr _) trivial (by decide) (Nat.le_refl _) (by decide)⟩ ?_
      rintro w4 ⟨k4, c4⟩
      have kw4 := HR.out.2.trans (k4.mono (fun b h => Nat.lt_of_lt_of_le h zr))
      have hform : Wr.form 0 (q : Int) [120].length = true := (Wr.form_iff _ _ _).2 ⟨by decide, by decide, by omega, by omega, by decide⟩
      refine (sign_good _ _ key [120] 0 (q : Int) w4 _ _ Hk.out (by decide) (by have := HLK.out; omega) hform (HT.out.keep kw4 HT.out.lt) (HK.out.keep kw4 (fun _ h => h)) c4).mono ?_
      rintro e w5 ⟨b5, rfl, fb5, k5, z5⟩
      have zr4 := k4.size
      obtain ⟨fa, fn, fc, rfl⟩ := cells_form fb5.cells
      obtain ⟨D, hD⟩ : ∃ D, Sha.tag key (Wr.signed 0 (q : Int) [120]) = D := ⟨_, rfl⟩
      have hDl : D.length = 32 := by rw [← hD]; exact tag_length Hk.out
      have HD := hid (And.intro hD (show ∀ x ∈ D, x < 256 by rw [← hD]; exact tag_lt))
      rw [hD]
      have H5 := hid (And.intro (k4.trans (k5.mono (fun b h => Nat.lt_of_lt_of_le h zr4))) fb5.cells)
      have z5' : wr.heap.size ≤ w5.heap.size := Nat.le_trans zr4 z5
      have hUr := HR.out.1.lt.2.2.2.2.2
      clear hD k4 k5 kw4 fb5 c4 kc
      have hi5 := frC_size hDl 0 (q : Int) (.slice fa fn fc)
      have hl35 := hid (show 35 = (frC 0 (q : Int) D (.slice fa fn fc)).toArray.size by rw [List.size_toArray, frC_length hDl])
      have h15 := frC_one 0 (q : Int) D (.slice fa fn fc) rfl
      go_upto_region 14 with (refine wpList_store_row rfl 49 (.tmp 10) (.tmp 57) rfl w5.heap.size (frC 0 (q : Int) D (.slice fa fn fc)).toArray rfl rfl 49 _ (heap_alloc_new w5 _) hi5 hl35.out h15 ?_)
      refine wp_world (fun w6 => w6.heap[w5.heap.size]? = some (.cells (frC 0 (q : Int) D (.slice fa fn fc)).toArray 49 (0, 0)) ∧ Keep (· < w5.heap.size) w5 w6) ⟨heap_setRow (heap_alloc_new w5 _) _, ((Keep.refl _ _).alloc _ (fun _ h => h)).setRow _ (by simp)⟩ ?_
      rintro w6 ⟨F6, k6⟩
      have H6 := hid (And.intro (H5.out.1.trans (k6.mono (fun b h => Nat.lt_of_lt_of_le h z5'))) (And.intro F6 ((H5.out.2.lt.keep k6 (fun b h => h.1)).mono (fun b h => h.2))))
      clear F6 k6 H5 hl35 h15
      go_wp2_with (refine wpList_load_row rfl 49 (.tmp 10) rfl w5.heap.size rfl 49 _ (0, 0) _ H6.out.2.1 Tryd.underlying49 rfl hi5 ?_)
      refine (wput_good 0 (q : Int) D _ [120] w6 _ hDl hform H6.out.2.2).mono ?_
      rintro e w7 ⟨v7, rfl, f7, k7, z7⟩
      have zr6 := H6.out.1.size
      have H7 := hid (And.intro (H6.out.1.trans (k7.mono (fun b h => Nat.lt_of_lt_of_le h zr6))) f7.cells)
      clear k7 f7 H6
      obtain ⟨bs, hbs⟩ : ∃ bs, Wr.bytes 0 (q : Int) D [120] = bs := ⟨_, rfl⟩
      have hfr : Wr.isFrame bs = true := by rw [← hbs]; exact isFrame_bytes 0 q D [120] hDl (by omega) (by decide)
      have hbb : ∀ x ∈ bs, x < 256 := by rw [← hbs]; exact Wr.bytes_lt _ _ _ _ HD.out.2 (by decide)
      have hno : openNo [key] [la] bs = if q ≤ la then 13 else 0 := by
        unfold openNo
        rw [hfr, ← hbs, Wr.bytes_head, Wr.seqOf_bytes, Wr.u64_nat q (by omega), Wr.bytes_body _ _ _ _ hDl, openTag_bytes _ _ _ _ hDl]
        have h0 : Wr.u8 0 = 0 := rfl
        rw [h0, if_neg (by decide), if_neg (by simp)]
        have h1 : Sha.tag ([key].getD 0 []) (Wr.signed ((0 : Nat) : Int) (q : Nat) [120]) = D := HD.out.1
        rw [if_neg (by rw [h1]; simp)]
        rfl
      have hofl : openLasts [key] [la] bs = [if q ≤ la then la else q] := by
        unfold openLasts
        rw [hno, ← hbs, Wr.bytes_head, Wr.seqOf_bytes, Wr.u64_nat q (by omega)]
        by_cases h : q ≤ la
        · rw [if_pos h, if_pos h]; rfl
        · rw [if_neg h, if_neg h]; rfl
      have hof : ∀ bv, openF bs bv = frC 0 (q : Int) D bv := fun bv => by
        unfold openF
        rw [hfr, ← hbs, Wr.bytes_head, Wr.seqOf_bytes, Wr.u64_nat q (by omega), openTag_bytes _ _ _ _ hDl]
        rfl
      rw [hbs] at H7
      have HO := hid (And.intro hno (And.intro hofl hof))
      have HBB := hid (And.intro hbb hfr)
      clear hbs hfr hbb hno hofl hof
      go_wp2_with fail
      have kw7 : Keep (· < w.heap.size) w w7 := HR.out.2.trans (H7.out.1.mono (fun b h => Nat.lt_of_lt_of_le h zr))
      have ht7 := HR.out.1.keep H7.out.1 (fun b _ h => Nat.lt_of_lt_of_le h hUr)
      refine (open_good tb B U g [key] [la] xs v7 bs w7 _ HBB.out.1 (by intro k hk; simp only [List.mem_singleton] at hk; rw [hk]; exact ⟨Hk.out, by have := HLK.out; omega⟩) HBB.out.2 (HT.out.keep kw7 HT.out.lt) (HE.out.1.keep kw7 (fun _ h => h)) ht7 (H7.out.2)).mono ?_
      rintro e w8 ⟨bv8, he8, hcb8, ht8, k8⟩
      obtain ⟨ya, yn, yc, rfl⟩ := cells_form (hcb8 HBB.out.2)
      rw [HO.out.1, HO.out.2.2] at he8
      rw [HO.out.2.1] at ht8
      have hlt := ht7.lt
      have H8 := hid (And.intro (kw7.trans (k8.mono (fun b (h : b < w.heap.size) => ⟨Nat.lt_of_lt_of_le h kw7.size, by omega⟩))) ht8)
      clear k8 ht8 kw7 ht7 HO HBB hlt H7 hcb8
      have hi8 := frC_size hDl 0 (q : Int) (.slice ya yn yc)
      have hl8 := hid (show 35 = (frC 0 (q : Int) D (.slice ya yn yc)).toArray.size by rw [List.size_toArray, frC_length hDl])
      have h18 := frC_one 0 (q : Int) D (.slice ya yn yc) rfl
      by_cases hq2 : q ≤ la
      case' pos =>
        rw [if_pos hq2] at he8 H8
        rw [show errV xs 13 = .iface 217 (.pointer xs[12]?) from rfl] at he8
        have g1 : decide (la < q) = false := by simp; omega
        have g2 : ¬ la < q := by omega
      case' neg =>
        rw [if_neg hq2] at he8 H8
        rw [show errV xs 0 = .nilIface from rfl] at he8
        have g1 : decide (la < q) = true := by simp; omega
        have g2 : la < q := by omega
      all_goals
        subst he8
        clear hq2
        go_upto_region 16 with (refine wpList_store_row rfl 49 (.tmp 14) (.tmp 68) rfl w8.heap.size (frC 0 (q : Int) D (.slice ya yn yc)).toArray rfl rfl 49 _ (heap_alloc_new w8 _) hi8 hl8.out h18 ?_)
        refine wp_world (fun w9 => Keep (· < w8.heap.size) w8 w9) (((Keep.refl _ _).alloc _ (fun _ h => h)).setRow _ (by simp)) ?_
        intro w9 k9
        have H9 := hid (And.intro (H8.out.1.trans (k9.mono (fun b h => Nat.lt_of_lt_of_le h H8.out.1.size))) (H8.out.2.keep k9 (fun b _ h => Nat.lt_of_lt_of_le h H8.out.2.lt.2.2.2.2.2)))
        clear k9 H8 hi8 hl8 h18 hi5
      · go_wp2_with fail
        refine (last_in tb 0 _ _ g [key] [q] w9 (by simp) H9.out.2).mono ?_
        rintro e w11 ⟨rfl, rfl⟩
        go_wp2_with fail
        go_roundg (gk - 1)
        case measure => omega
        case rel => exact ⟨i + 1, q, by omega, by go_num, rfl, hql, H9.out.2, H9.out.1⟩
      · go_wp2_with fail
        refine (num_err xs 13 w9 (by decide) (HE.out.1.keep H9.out.1 (fun _ h => h)) HE.out.2).mono ?_
        rintro e w10 ⟨rfl, k10⟩
        have H10 := hid (And.intro (H9.out.1.trans (k10.mono (fun b h => Nat.lt_of_lt_of_le h H9.out.1.size))) (H9.out.2.keep k10 (fun b _ h => Nat.lt_of_lt_of_le h H9.out.2.lt.2.2.2.2.2)))
        clear k10 H9
        go_wp2_with fail
        refine (last_in tb 0 _ _ g [key] [la] w10 (by simp) H10.out.2).mono ?_
        rintro e w11 ⟨rfl, rfl⟩
        go_wp2_with fail
        go_roundg (gk - 1)
        case measure => omega
        case rel => exact ⟨i + 1, la, by omega, by go_num, rfl, hla, H10.out.2, H10.out.1⟩
    · obtain rfl : i = n1 := by omega
      go_wp2_with fail
      go_ret
      exact ⟨rfl, HR.out.2⟩
end Go.Proofs.YtnpneippahdigaaDoor
