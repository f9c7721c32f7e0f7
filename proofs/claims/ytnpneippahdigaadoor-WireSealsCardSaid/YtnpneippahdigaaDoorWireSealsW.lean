/-
  Step by step: the statement 'WireSeals'.
-/
import Derived.Test.YtnpneippahdigaaDoorWireE
import Derived.Test.YtnpneippahdigaaDoorMem7
namespace Go.Proofs.YtnpneippahdigaaDoor
open Go.RowKit Go.Proofs.Mem

theorem xor1_le (q : Nat) (h : q ≤ 1099511627775) : q ^^^ 1 ≤ 1099511627775 := by
  have : q ^^^ 1 < 2 ^ 40 := Nat.xor_lt_two_pow (by omega) (by decide)
  omega
/-- a frame that lies in a block: what the rest of a round wants. -/
structure Held (w : World) (G : Nat) (t s : Int) (tag : List Nat) (bv : Value) (body : List Nat) : Prop where
  blk : w.heap[G]? = some (.cells (frC t s tag bv).toArray 49 (0, 0))
  tagl : tag.length = 32
  tagb : ∀ x ∈ tag, x < 256
  bodyc : Cells w (fun _ => True) bv (ints .u8 body)
  bodyb : ∀ x ∈ body, x < 256
  form : Wr.form t s body.length = true
theorem Held.keep {w w' : World} {G : Nat} {t s : Int} {tag : List Nat} {bv : Value} {body : List Nat} {q : Nat → Prop} (h : Held w G t s tag bv body) (k : Keep q w w') (hq : ∀ b, b < w.heap.size → q b) : Held w' G t s tag bv body :=
  ⟨(k.block G (hq G (Array.getElem?_eq_some_iff.1 h.blk).1)).trans h.blk, h.tagl, h.tagb, (h.bodyc.lt.keep k (fun b hb => hq b hb.1)).mono (fun _ _ => trivial), h.bodyb, h.form⟩
theorem Held.lt {w : World} {G : Nat} {t s : Int} {tag : List Nat} {bv : Value} {body : List Nat} (h : Held w G t s tag bv body) : G < w.heap.size := (Array.getElem?_eq_some_iff.1 h.blk).1

set_option maxRecDepth 100000 in
set_option maxHeartbeats 4000000 in
theorem wireSeals_walk (kv bv : Value) (key body : List Nat) (m : Int) (w : World) (p p' : Nat → Prop) (hk : ∀ x ∈ key, x < 256) (hb : ∀ x ∈ body, x < 256) (hT : TurnsAt w) (hkv : Cells w p kv (ints .u8 key)) (hbv : Cells w p' bv (ints .u8 body)) :
    Calls Tryd.prog 6 #[kv, bv, .int .i64 m] w fun e w' => e = .returned (.bool true) ∧ Keep (· < w.heap.size) w w' := by
  have HK := hid (hkv.lt.mono (q := fun b => b < w.heap.size) (fun _ h => h.1))
  have HB := hid (hbv.lt.mono (q := fun b => b < w.heap.size) (fun _ h => h.1))
  have HT := hid hT
  have Hk := hid hk
  have Hb := hid hb
  obtain ⟨ka, kn, kc, rfl⟩ := cells_form hkv
  obtain ⟨ba, bn, bc, rfl⟩ := cells_form hbv
  have hkn : kn = key.length := by
    obtain ⟨_, _, _, e, h1, _⟩ := id hkv
    injection e with _ e2 _
    rw [e2, h1, ints_length]
  have hbn : bn = body.length := by
    obtain ⟨_, _, _, e, h1, _⟩ := id hbv
    injection e with _ e2 _
    rw [e2, h1, ints_length]
  clear hkv hbv hT hk hb
  go_enter Tryd.func6, Tryd.ntmps6
  go_wp2_with fail
  refine (alive21_walk w HT.out).mono ?_
  rintro e w1 ⟨rfl, k1⟩
  have H1 := hid k1
  clear k1
  by_cases c1 : 300 < kn
  · have t1 : decide ((300 : Int) < (kn : Int)) = true := by simp; omega
    clear hkn hbn
    go_wp2_with fail
    go_ret
    exact ⟨rfl, H1.out⟩
  have t1 : decide ((300 : Int) < (kn : Int)) = false := by simp; omega
  by_cases c2 : 3000 < bn
  · have t2 : decide ((3000 : Int) < (bn : Int)) = true := by simp; omega
    clear hkn hbn
    go_wp2_with fail
    go_ret
    exact ⟨rfl, H1.out⟩
  have t2 : decide ((3000 : Int) < (bn : Int)) = false := by simp; omega
  have l1 : key.length ≤ 300 := by omega
  have l2 : body.length ≤ 3000 := by omega
  obtain ⟨q, hq, hql⟩ := mask40 m
  clear c1 c2 hkn hbn
  go_wp2_with fail
  try rw [hq]
  clear hq
  have z1 := H1.out.size
  refine (sign_good _ _ key body 3 (q : Int) w1 _ _ Hk.out Hb.out (by omega) ((Wr.form_iff _ _ _).2 ⟨by decide, by decide, by omega, by omega, by omega⟩) (HT.out.keep H1.out HT.out.lt) (HK.out.keep H1.out (fun _ h => h)) (HB.out.keep H1.out (fun _ h => h))).mono ?_
  rintro e w2 ⟨b', rfl, fb, k2, z2⟩
  obtain ⟨fa, fn, fc, rfl⟩ := cells_form fb.cells
  have H2 := hid (And.intro (H1.out.trans (k2.mono (fun b h => Nat.lt_of_lt_of_le h z1))) fb)
  obtain ⟨D, hD⟩ : ∃ D, Sha.tag key (Wr.signed 3 (q : Int) body) = D := ⟨_, rfl⟩
  have hDl : D.length = 32 := by rw [← hD]; exact tag_length Hk.out
  have HD := hid (And.intro hD (show ∀ x ∈ D, x < 256 by rw [← hD]; exact tag_lt))
  rw [hD]
  have z12 := Nat.le_trans z1 z2
  clear k2 fb hD t1 t2
  have hi := frC_size hDl 3 (q : Int) (.slice fa fn fc)
  have hl35 := hid (show 35 = (frC 3 (q : Int) D (.slice fa fn fc)).toArray.size by rw [List.size_toArray, frC_length hDl])
  have h1 := frC_one 3 (q : Int) D (.slice fa fn fc) rfl
  go_upto_region 7 with (refine wpList_store_row rfl 49 (.tmp 7) (.tmp 30) rfl w2.heap.size (frC 3 (q : Int) D (.slice fa fn fc)).toArray rfl rfl 49 _ (heap_alloc_new w2 _) hi hl35.out h1 ?_)
  refine wp_world (fun w3 => w3.heap[w2.heap.size]? = some (.cells (frC 3 (q : Int) D (.slice fa fn fc)).toArray 49 (0, 0)) ∧ Keep (· < w2.heap.size) w2 w3 ∧ w2.heap.size < w3.heap.size) ⟨heap_setRow (heap_alloc_new w2 _) _, ((Keep.refl _ _).alloc _ (fun _ h => h)).setRow _ (by simp), by simp⟩ ?_
  rintro w3 ⟨F3, k3, z3⟩
  obtain ⟨A, hA⟩ : ∃ A, w2.heap.size = A := ⟨_, rfl⟩
  have H3 := hid (And.intro (H2.out.1.trans (k3.mono (fun b h => Nat.lt_of_lt_of_le h z12))) (show Held w3 A 3 (q : Int) D (.slice fa fn fc) body from
    ⟨by rw [← hA]; exact F3, hDl, HD.out.2, (H2.out.2.keep k3 (fun b _ h => h)).cells.mono (fun _ _ => trivial), Hb.out, (Wr.form_iff _ _ _).2 ⟨by decide, by decide, by omega, by omega, by omega⟩⟩))
  have z13 : w.heap.size < w3.heap.size := Nat.lt_of_le_of_lt z12 z3
  rw [hA]
  clear F3 k3 H2 hA z3 z12 z2
  go_wp2_with (refine wpList_load_row_if (by rfl) 49 (.tmp 7) rfl A rfl 49 _ (0, 0) _ H3.out.2.blk Tryd.underlying49 rfl hi ?_)
  refine (right_good _ _ key D body 3 (q : Int) w3 _ _ Hk.out Hb.out HD.out.2 hDl (by omega) H3.out.2.form (HT.out.keep H3.out.1 HT.out.lt) (HK.out.keep H3.out.1 (fun _ h => h)) H3.out.2.bodyc).mono ?_
  rintro e w4 ⟨rfl, k4⟩
  have e1 : decide (Sha.tag key (Wr.signed 3 (q : Int) body) = D) = true := by rw [HD.out.1]; simp
  rw [e1]
  have H4 := hid (And.intro (H3.out.1.trans (k4.mono (fun b (h : b < w.heap.size) => Nat.lt_trans h z13))) (H3.out.2.keep k4 (fun b h => h)))
  have z4 := Nat.lt_of_lt_of_le z13 k4.size
  clear k4 H3 e1
  go_wp2_with fail
  go_loopg [40] 4 (fun k s40 wr => ∃ i : Nat, i + k = 4 ∧ s40 = .int .i64 (i : Int) ∧ Keep (· < w4.heap.size) w4 wr)
  case atStart => exact ⟨0, rfl, rfl, Keep.refl _ _⟩
  case round =>
    obtain ⟨i, hi4, rfl, hkr⟩ := hrel
    have HR := hid (And.intro (H4.out.1.trans (hkr.mono (fun b h => Nat.lt_trans h z4))) (And.intro (H4.out.2.keep hkr (fun b h => h)) hkr))
    have zr := hkr.size
    clear hkr
    by_cases hlt : i < 4
    · have l0 : (i : Int) < 4 := by omega
      have zA := HR.out.2.1.lt
      go_upto_region 13 with (first | refine wpList_load_row rfl 49 (.tmp 7) rfl A rfl 49 _ (0, 0) _ HR.out.2.1.blk Tryd.underlying49 rfl hi ?_ | refine wpList_store_row rfl 49 (.tmp 10) (.tmp 43) rfl wr.heap.size (frC 3 (q : Int) D (.slice fa fn fc)).toArray rfl rfl 49 _ (heap_alloc_new wr _) hi hl35.out h1 ?_)
      refine wp_world (fun w5 => w5.heap[wr.heap.size]? = some (.cells (frC 3 (q : Int) D (.slice fa fn fc)).toArray 49 (0, 0)) ∧ Keep (· < wr.heap.size) wr w5 ∧ wr.heap.size < w5.heap.size) ⟨heap_setRow (heap_alloc_new wr _) _, ((Keep.refl _ _).alloc _ (fun _ h => h)).setRow _ (by simp), by simp⟩ ?_
      rintro w5 ⟨F5, k5, z5⟩
      obtain ⟨G, hG⟩ : ∃ G, wr.heap.size = G := ⟨_, rfl⟩
      rw [hG] at F5 k5 z5 zA zr ⊢
      have H5 := hid (And.intro F5 (And.intro k5 (HR.out.2.1.keep k5 (fun b h => by rw [← hG]; exact h))))
      have HG := hid hG
      clear F5 k5 hG
      have there5 : ∀ j, j < 35 → (∃ v, w5.cell? ⟨G, j, none⟩ = some v) ∧ w5.frozen? ⟨G, j, none⟩ = false := fun j hj => ⟨⟨_, (cell_at H5.out.1 j).trans (List.getElem?_eq_getElem (by rw [frC_length hDl]; exact hj))⟩, frozen_at H5.out.1 j⟩
      have hdrop : (frC 3 (q : Int) D (.slice fa fn fc))[33]? = some (.int .u8 (D.getD 31 0 : Nat)) := by
        unfold frC
        rw [show (33 : Nat) = 31 + 1 + 1 from rfl, List.getElem?_cons_succ, List.getElem?_cons_succ, List.getElem?_append_left (by rw [ints_length, hDl]; decide), ints_get _ _ _ (by rw [hDl]; decide)]
      have H5k := hid (show Keep (· < G) wr w5 from H5.out.2.1)
      have H5b := hid (show Keep (· < w.heap.size) w w5 from HR.out.1.trans (H5.out.2.1.mono (fun b h => by omega)))
      have hi' : i = 0 ∨ i = 1 ∨ i = 2 ∨ i = 3 := by omega
      have T5 := hid there5
      have HDR := hid hdrop
      clear there5 hdrop
      rcases hi' with h0 | h0 | h0 | h0
      case' inl =>
        have b0 : ((i : Int) == 0) = true := by simp; omega
        obtain ⟨⟨v0, c0⟩, f0⟩ := T5.out 0 (by decide)
        clear h0
        go_upto_region 22 with fail
        have hb6 := set_at H5.out.1 0 (.int .i64 4)
        have e6 : (frC 3 (q : Int) D (.slice fa fn fc)).set 0 (.int .i64 4) = frC 4 (q : Int) D (.slice fa fn fc) := rfl
        rw [e6] at hb6
        have k6 : Keep (fun b => b ≠ G) w5 (w5.setCell ⟨G, 0, none⟩ (.int .i64 4)) := (Keep.refl _ _).setCell _ (fun h => h rfl)
        have fb6 : Cells (w5.setCell ⟨G, 0, none⟩ (.int .i64 4)) (fun _ => True) (.slice fa fn fc) (ints .u8 body) := (((HR.out.2.1.bodyc.lt.keep H5.out.2.1 (fun b h => by rw [← HG.out]; exact h.1)).keep k6 (fun b h => by have := HG.out; omega))).mono (fun _ _ => trivial)
        refine wp_world (fun w6 => (∃ (t' s' : Int) (tag' : List Nat) (xa : Option Addr) (xn xc : Nat) (body' : List Nat), Held w6 G t' s' tag' (.slice xa xn xc) body' ∧ body'.length ≤ 3001) ∧ Keep (fun b => b < G) w5 w6) ⟨⟨4, q, D, fa, fn, fc, body, ⟨hb6, hDl, HD.out.2, fb6, Hb.out, (Wr.form_iff _ _ _).2 ⟨by decide, by decide, by omega, by omega, by omega⟩⟩, by omega⟩, k6.mono (fun b (h : b < G) => Nat.ne_of_lt h)⟩ ?_
        clear b0 c0 f0 hb6 e6 k6 fb6
        rintro w6 ⟨⟨t', s', tag', xa, xn, xc, body', hh, hbl⟩, k6⟩
      case' inr.inl =>
        have b0 : ((i : Int) == 0) = false := by simp; omega
        have b1 : ((i : Int) == 1) = true := by simp; omega
        obtain ⟨⟨v0, c0⟩, f0⟩ := T5.out 1 (by decide)
        have hx1 := i64_xor q 1 (by omega) (by decide)
        obtain ⟨r, hr⟩ : ∃ r, q ^^^ 1 = r := ⟨_, rfl⟩
        have hrl : r ≤ 1099511627775 := by rw [← hr]; exact xor1_le q hql
        rw [hr] at hx1
        have hx2 : bits .xor .i64 (q : Int) 1 = (r : Int) := hx1
        clear h0 hr hx1
        go_upto_region 22 with fail
        have hb6 := set_at H5.out.1 1 (.int .i64 (r : Int))
        have e6 : (frC 3 (q : Int) D (.slice fa fn fc)).set 1 (.int .i64 (r : Int)) = frC 3 (r : Int) D (.slice fa fn fc) := rfl
        rw [e6] at hb6
        have k6 : Keep (fun b => b ≠ G) w5 (w5.setCell ⟨G, 1, none⟩ (.int .i64 (r : Int))) := (Keep.refl _ _).setCell _ (fun h => h rfl)
        have fb6 : Cells (w5.setCell ⟨G, 1, none⟩ (.int .i64 (r : Int))) (fun _ => True) (.slice fa fn fc) (ints .u8 body) := (((HR.out.2.1.bodyc.lt.keep H5.out.2.1 (fun b h => by rw [← HG.out]; exact h.1)).keep k6 (fun b h => by have := HG.out; omega))).mono (fun _ _ => trivial)
        try rw [hx2]
        refine wp_world (fun w6 => (∃ (t' s' : Int) (tag' : List Nat) (xa : Option Addr) (xn xc : Nat) (body' : List Nat), Held w6 G t' s' tag' (.slice xa xn xc) body' ∧ body'.length ≤ 3001) ∧ Keep (fun b => b < G) w5 w6) ⟨⟨3, r, D, fa, fn, fc, body, ⟨hb6, hDl, HD.out.2, fb6, Hb.out, (Wr.form_iff _ _ _).2 ⟨by decide, by decide, by omega, by omega, by omega⟩⟩, by omega⟩, k6.mono (fun b (h : b < G) => Nat.ne_of_lt h)⟩ ?_
        clear b0 b1 c0 f0 hb6 e6 k6 fb6 hx2
        rintro w6 ⟨⟨t', s', tag', xa, xn, xc, body', hh, hbl⟩, k6⟩
      case' inr.inr.inl =>
        have b0 : ((i : Int) == 0) = false := by simp; omega
        have b1 : ((i : Int) == 1) = false := by simp; omega
        have b2 : ((i : Int) == 2) = true := by simp; omega
        clear h0
        have hA5 : Held w5 A 3 (q : Int) D (.slice fa fn fc) body := H5.out.2.2
        have kA : Keep (· < w5.heap.size) w5 (w5.alloc (.cells #[] 5)) := (Keep.refl _ _).alloc _ (fun _ h => h)
        have cA : (w5.alloc (.cells #[] 5)).cell? ⟨A, 34, none⟩ = some (.slice fa fn fc) := (kA.cell (x := ⟨A, 34, none⟩) hA5.lt).trans ((cell_at hA5.blk 34).trans (frC_34 hDl _ _ _))
        obtain ⟨i0, hi0, hz0, hs0, hb0⟩ := u8_info
        have HA1 := hid (append_first (P := Tryd.prog) 32 5 i0 (.int .u8 0) 1 Tryd.underlying32 hi0 hz0 hs0 hb0 rfl w5 32 _ (ints .u8 body) hA5.bodyc (ints_one _ _) (by rw [ints_length]; omega))
        have HI := hid (And.intro hi0 (And.intro hz0 (And.intro hs0 hb0)))
        clear hA5 kA hi0 hz0 hs0 hb0
        go_upto_region 22 with (first
          | (at_builtin; refine wpList_app rfl (.tmp 55) (.tmp 57) 32 32 rfl _ HA1.out ?_; rintro v1 wa ⟨r1, ka1, za1⟩; have HA2 := hid (append_one (P := Tryd.prog) 32 5 i0 (.int .u8 0) 1 Tryd.underlying32 HI.out.1 HI.out.2.1 HI.out.2.2.1 HI.out.2.2.2 rfl wa 32 w5.heap.size v1 (.int .u8 0) (ints .u8 body) r1 rfl (by rw [ints_length]; omega) (by rw [ints_length]; omega) za1))
          | (at_builtin; refine wpList_app rfl (.tmp 58) (.tmp 59) 32 32 rfl _ HA2.out ?_; rintro v2 wb ⟨r2, kb2, zb2⟩; obtain ⟨xa, xn, xc, rfl⟩ := cells_form (owns_cells r2); have kb5 : Keep (· < w5.heap.size) w5 wb := ka1.trans kb2; have hbG := (kb5.block G z5).trans H5.out.1; have cG : wb.cell? ⟨G, 34, none⟩ = some (.slice fa fn fc) := (cell_at hbG 34).trans (frC_34 hDl _ _ _); have fG := frozen_at hbG 34; have HbG := hid hbG; clear hbG))
        have hb6 := set_at HbG.out 34 (.slice xa xn xc)
        have e6 : (frC 3 (q : Int) D (.slice fa fn fc)).set 34 (.slice xa xn xc) = frC 3 (q : Int) D (.slice xa xn xc) := by
          have := frC_lay34 hDl 3 (q : Int) (.slice fa fn fc) (.slice xa xn xc)
          rw [← this, ← lay_cons _ _ _ [] (by rw [frC_length hDl]; decide)]
          simp [lay]
        rw [e6] at hb6
        have k6 : Keep (fun b => b ≠ G) wb (wb.setCell ⟨G, 34, none⟩ (.slice xa xn xc)) := (Keep.refl _ _).setCell _ (fun h => h rfl)
        have fb6 : Cells (wb.setCell ⟨G, 34, none⟩ (.slice xa xn xc)) (fun _ => True) (.slice xa xn xc) (ints .u8 (body ++ [0])) := by
          rw [ints_append]
          exact ((owns_cells r2).keep k6 (fun b h => by omega)).mono (fun _ _ => trivial)
        refine wp_world (fun w6 => (∃ (t' s' : Int) (tag' : List Nat) (xa : Option Addr) (xn xc : Nat) (body' : List Nat), Held w6 G t' s' tag' (.slice xa xn xc) body' ∧ body'.length ≤ 3001) ∧ Keep (fun b => b < G) w5 w6) ⟨⟨3, q, D, xa, xn, xc, body ++ [0], ⟨hb6, hDl, HD.out.2, fb6, fun x hx => by rcases List.mem_append.1 hx with h | h; exact Hb.out x h; simp at h; omega, (Wr.form_iff _ _ _).2 ⟨by decide, by decide, by omega, by omega, by rw [List.length_append]; simp; omega⟩⟩, by rw [List.length_append]; simp; omega⟩, (kb5.mono (fun b (h : b < G) => Nat.lt_trans h z5)).trans (k6.mono (fun b (h : b < G) => Nat.ne_of_lt h))⟩ ?_
        clear b0 b1 b2 cG fG HbG hb6 e6 k6 fb6 r2 kb5 cA
        rintro w6 ⟨⟨t', s', tag', xa, xn, xc, body', hh, hbl⟩, k6⟩
      case' inr.inr.inr =>
        have b0 : ((i : Int) == 0) = false := by simp; omega
        have b1 : ((i : Int) == 1) = false := by simp; omega
        have b2 : ((i : Int) == 2) = false := by simp; omega
        have b3 : ((i : Int) == 3) = true := by simp; omega
        have f0 := (T5.out 33 (by decide)).2
        have c0 := (cell_at H5.out.1 33).trans HDR.out
        obtain ⟨x, hx⟩ : ∃ x, D.getD 31 0 = x := ⟨_, rfl⟩
        rw [hx] at c0
        obtain ⟨r, hr, hr256⟩ := xor_u8 (x : Int) 1
        clear h0 hx
        go_upto_region 22 with fail
        try rw [hr]
        have hb6 := set_at H5.out.1 33 (.int .u8 (r : Int))
        have e6 : (frC 3 (q : Int) D (.slice fa fn fc)).set 33 (.int .u8 (r : Int)) = frC 3 (q : Int) (D.set 31 r) (.slice fa fn fc) := by
          unfold frC
          rw [show (33 : Nat) = 31 + 1 + 1 from rfl, List.set_cons_succ, List.set_cons_succ, List.set_append_left _ _ (by rw [ints_length, hDl]; decide), ints_set]
        rw [e6] at hb6
        have k6 : Keep (fun b => b ≠ G) w5 (w5.setCell ⟨G, 33, none⟩ (.int .u8 (r : Int))) := (Keep.refl _ _).setCell _ (fun h => h rfl)
        have fb6 : Cells (w5.setCell ⟨G, 33, none⟩ (.int .u8 (r : Int))) (fun _ => True) (.slice fa fn fc) (ints .u8 body) := (((HR.out.2.1.bodyc.lt.keep H5.out.2.1 (fun b h => by rw [← HG.out]; exact h.1)).keep k6 (fun b h => by have := HG.out; omega))).mono (fun _ _ => trivial)
        refine wp_world (fun w6 => (∃ (t' s' : Int) (tag' : List Nat) (xa : Option Addr) (xn xc : Nat) (body' : List Nat), Held w6 G t' s' tag' (.slice xa xn xc) body' ∧ body'.length ≤ 3001) ∧ Keep (fun b => b < G) w5 w6) ⟨⟨3, q, D.set 31 r, fa, fn, fc, body, ⟨hb6, by rw [List.length_set]; exact hDl, fun y hy => by rcases List.mem_or_eq_of_mem_set hy with h | h; exact HD.out.2 y h; omega, fb6, Hb.out, (Wr.form_iff _ _ _).2 ⟨by decide, by decide, by omega, by omega, by omega⟩⟩, by omega⟩, k6.mono (fun b (h : b < G) => Nat.ne_of_lt h)⟩ ?_
        clear b0 b1 b2 b3 c0 f0 hb6 e6 k6 fb6 hr
        rintro w6 ⟨⟨t', s', tag', xa, xn, xc, body', hh, hbl⟩, k6⟩
      all_goals
        have kw6 : Keep (· < w.heap.size) w w6 := H5b.out.trans (k6.mono (fun b h => by omega))
        have zG6 := hh.lt
        have c0 := (cell_at hh.blk 0).trans (frC_0 _ _ _ _)
        have c1 := (cell_at hh.blk 1).trans (frC_1 _ _ _ _)
        have c34 := (cell_at hh.blk 34).trans (frC_34 hh.tagl _ _ _)
        have H6 := hid (And.intro kw6 (And.intro hh k6))
        clear kw6 hh k6 H5 H5b T5 HDR
        go_wp2_with fail
        refine (sign_good _ _ key body' t' s' w6 _ _ Hk.out H6.out.2.1.bodyb (by omega) H6.out.2.1.form (HT.out.keep H6.out.1 HT.out.lt) (HK.out.keep H6.out.1 (fun _ h => h)) H6.out.2.1.bodyc).mono ?_
        rintro e w7 ⟨b7, rfl, fb7, k7, z7⟩
        clear c0 c1 c34
        obtain ⟨ya, yn, yc, rfl⟩ := cells_form fb7.cells
        obtain ⟨E, hE⟩ : ∃ E, Sha.tag key (Wr.signed t' s' body') = E := ⟨_, rfl⟩
        have hEl : E.length = 32 := by rw [← hE]; exact tag_length Hk.out
        have HE := hid (And.intro hE (show ∀ x ∈ E, x < 256 by rw [← hE]; exact tag_lt))
        rw [hE]
        have H7 := hid (And.intro (H6.out.1.trans (k7.mono (fun b h => by omega))) (And.intro (H6.out.2.1.keep k7 (fun b h => h)) (H6.out.2.2.trans (k7.mono (fun b h => by omega)))))
        have zG7 := Nat.lt_of_lt_of_le zG6 z7
        clear k7 fb7 hE H6
        have hi7 := frC_size hEl t' s' (.slice ya yn yc)
        have hl7 := hid (show 35 = (frC t' s' E (.slice ya yn yc)).toArray.size by rw [List.size_toArray, frC_length hEl])
        have h17 := frC_one t' s' E (.slice ya yn yc) rfl
        go_upto_region 23 with (refine wpList_store_row rfl 49 (.tmp 11) (.tmp 79) rfl w7.heap.size (frC t' s' E (.slice ya yn yc)).toArray rfl rfl 49 _ (heap_alloc_new w7 _) hi7 hl7.out h17 ?_)
        refine wp_world (fun w8 => w8.heap[w7.heap.size]? = some (.cells (frC t' s' E (.slice ya yn yc)).toArray 49 (0, 0)) ∧ Keep (· < w7.heap.size) w7 w8) ⟨heap_setRow (heap_alloc_new w7 _) _, ((Keep.refl _ _).alloc _ (fun _ h => h)).setRow _ (by simp)⟩ ?_
        rintro w8 ⟨F8, k8⟩
        have H8 := hid (And.intro (H7.out.1.trans (k8.mono (fun b h => by omega))) (And.intro (H7.out.2.1.keep k8 (fun b h => h)) (And.intro (H7.out.2.2.trans (k8.mono (fun b h => by omega))) F8)))
        obtain ⟨J, hJ⟩ : ∃ J, w7.heap.size = J := ⟨_, rfl⟩
        rw [hJ] at H8 ⊢
        clear k8 F8 H7 hJ hl7 h17 hi7
        have hq32 := info32 E hEl
        refine Txt.wp_region_plan [true, true, true, true, true, false, true, true, true, true, true, true, true] (.free 0 (.free 1 (.free 2 (.free 3 (.free 4 (.free 6 (.free 7 (.free 8 (.free 9 (.free 10 (.one 5 (.free 11 (.free 12 (.done))))))))))))))
          (fun wx => wx.heap[G]? = some (.cells (frC t' s' tag' (.slice xa xn xc)).toArray 49 (0, 0)) ∧ wx.heap[J]? = some (.cells (frC t' s' E (.slice ya yn yc)).toArray 49 (0, 0))) (by kernel_rfl) (by kernel_rfl) ⟨H8.out.2.1.blk, H8.out.2.2.2⟩ ?_
        iterate 4 (refine Txt.plan_free rfl (by rfl) (fun K hK => ?_); go_simp; refine hK _ ?_; clear hK K)
        refine Txt.plan_load rfl (by rfl) 49 (.tmp 10) rfl G 0 rfl (frC t' s' tag' (.slice xa xn xc)) _ (fun wx h => range_whole h.1) Tryd.underlying49 rfl (by have := frC_size H8.out.2.1.tagl t' s' (.slice xa xn xc); simpa using this) (fun K hK => ?_)
        refine hK _ ?_
        clear hK K
        refine Txt.plan_free rfl (by rfl) (fun K hK => ?_); go_simp; refine hK _ ?_; clear hK K
        refine Txt.plan_load rfl (by rfl) 47 (.tmp 87) rfl J 2 rfl (ints .u8 E) _ (fun wx h => by have := range_at h.2 2 32; rwa [frC_tag hEl] at this) Tryd.underlying47 rfl (by simpa using hq32) (fun K hK => ?_)
        refine hK _ ?_
        clear hK K
        refine Txt.plan_free rfl (by rfl) (fun K hK => ?_); go_simp; refine hK _ ?_; clear hK K
        refine Txt.plan_load rfl (by rfl) 47 (.tmp 89) rfl G 2 rfl (ints .u8 tag') _ (fun wx h => by have := range_at h.1 2 32; rwa [frC_tag H8.out.2.1.tagl] at this) Tryd.underlying47 rfl (by have := info32 tag' H8.out.2.1.tagl; simpa using this) (fun K hK => ?_)
        refine hK _ ?_
        clear hK K
        obtain ⟨bb, hbb⟩ : ∃ bb, decide (E = tag') = bb := ⟨_, rfl⟩
        have heq : (E == tag') = bb := by rw [← hbb]; rw [Bool.eq_iff_iff]; simp
        have hql := fun w0 => eql_bytes (P := Tryd.prog) 47 5 32 Tryd.underlying47 Tryd.underlying5 (by kernel_rfl) w0 HE.out.2 H8.out.2.1.tagb hEl H8.out.2.1.tagl
        rw [heq] at hql
        have HBB := hid hbb
        clear hbb heq
        refine Txt.plan_free rfl (by rfl) (fun K hK => ?_); go_simp; refine hK _ ?_; clear hK K
        clear hql
        have cw8 : Cells w8.drew (fun _ => True) (.slice xa xn xc) (ints .u8 body') := H8.out.2.1.bodyc
        refine Txt.plan_one rfl (by rfl) (fun K hK => ?_); go_simp
        refine (right_good _ _ key tag' body' t' s' w8.drew _ _ Hk.out H8.out.2.1.bodyb H8.out.2.1.tagb H8.out.2.1.tagl (by omega) H8.out.2.1.form (HT.out.keep (H8.out.1.drewN 1) HT.out.lt) (HK.out.keep (H8.out.1.drewN 1) (fun _ h => h)) cw8).mono ?_
        rintro e w9 ⟨rfl, k9⟩
        rw [HE.out.1, HBB.out]
        have z8 : w4.heap.size ≤ w8.heap.size := by have := H8.out.2.2.1.size; omega
        have H9 := hid (And.intro ((H8.out.1.drewN 1).trans (k9.mono (fun b (h : b < w.heap.size) => (Nat.lt_of_lt_of_le (Nat.lt_trans h z4) z8)))) (show Keep (· < w4.heap.size) w4 w9 from (HR.out.2.2.trans (((H5k.out.trans (H8.out.2.2.1.mono (fun b h => h))).mono (fun b (h : b < w4.heap.size) => by omega)))).trans (((Keep.refl _ _).drew).trans (k9.mono (fun b (h : b < w4.heap.size) => Nat.lt_of_lt_of_le h z8)))))
        have hG9 := (k9.block G H8.out.2.1.lt).trans H8.out.2.1.blk
        have hJ9 := (k9.block J (Array.getElem?_eq_some_iff.1 H8.out.2.2.2).1).trans H8.out.2.2.2
        refine hK _ _ ⟨⟨hG9, hJ9⟩, ?_⟩
        clear hK K k9 hG9 hJ9 cw8 H8
        iterate 2 (refine Txt.plan_free rfl (by rfl) (fun K hK => ?_); go_simp; refine hK _ ?_; clear hK K)
        simp only [Txt.runs]
        clear hq32
        cases bb
        all_goals
          go_wp2_with fail
          go_roundg (gk - 1)
          case measure => omega
          case rel => exact ⟨i + 1, by omega, by go_num, H9.out.2⟩
    · obtain rfl : i = 4 := by omega
      clear hi hl35 h1
      go_wp2_with fail
      go_ret
      exact ⟨rfl, HR.out.1⟩
end Go.Proofs.YtnpneippahdigaaDoor
