/-
  Step by step: 'Open' of package wire.
-/
import Derived.Test.YtnpneippahdigaaDoorWireH
import Derived.Test.YtnpneippahdigaaDoorNum
namespace Go.Proofs.YtnpneippahdigaaDoor
open Go.RowKit Go.Proofs.Mem Go.Proofs.Txt

/-- the error of a number, 0 for none. -/
def errV (xs : List Addr) : Nat → Value
  | 0 => .nilIface
  | n + 1 => .iface 217 (.pointer xs[n]?)
theorem errs_at {w : World} : ∀ {gs : List Nat} {xs : List Addr}, ErrsAt w gs xs → ∀ (n g : Nat), gs[n]? = some g → w.cell? ⟨g, 0, none⟩ = some (errV xs (n + 1)) ∧ g < w.heap.size
  | [], [], _ => fun n g h => by simp at h
  | g0 :: gs, x :: xs, h => fun n g hg => by
    cases n with
    | zero => simp at hg; subst hg; exact ⟨h.1.cell, h.1.lt⟩
    | succ n => simp at hg; have := errs_at h.2 n g hg; exact this
  | [], _ :: _, h => h.elim
  | _ :: _, [], h => h.elim
theorem num_err (xs : List Addr) (n : Nat) (w : World) (hn : n ≤ 17) (he : ErrsAt w errGs xs) (hd : xs.Nodup) : Calls Tryd.prog 19 #[errV xs n] w fun e w' => e = .returned (.int .i64 (n : Nat)) ∧ Keep (· < w.heap.size) w w' := by
  cases n with
  | zero => exact (num_nil w).mono fun e w' h => by obtain ⟨rfl, rfl⟩ := h; exact ⟨rfl, Keep.refl _ _⟩
  | succ n =>
    have hl : xs.length = 17 := he.length
    have hx : xs[n]? = some xs[n] := List.getElem?_eq_getElem (by omega)
    show Calls _ _ #[.iface 217 (.pointer xs[n]?)] w _
    rw [hx]
    exact num_at xs n _ w he hd hx

def openTag (b : List Nat) : List Nat := (b.drop 9).take 32
/-- the number of the error with which bytes are opened. -/
def openNo (keys : List (List Nat)) (lasts b : List Nat) : Nat :=
  if Wr.isFrame b = false then 11 else if keys.length ≤ b.getD 0 0 then 17
  else if Sha.tag (keys.getD (b.getD 0 0) []) (Wr.signed (b.getD 0 0 : Nat) (Wr.seqOf b : Nat) (b.drop 41)) ≠ openTag b then 12
  else if Wr.seqOf b ≤ lasts.getD (b.getD 0 0) 0 then 13 else 0
def openLasts (keys : List (List Nat)) (lasts b : List Nat) : List Nat := if openNo keys lasts b = 0 then lasts.set (b.getD 0 0) (Wr.seqOf b) else lasts
def openF (b : List Nat) (bv : Value) : List Value := if Wr.isFrame b then frC (b.getD 0 0 : Nat) (Wr.seqOf b : Nat) (openTag b) bv else frC 0 0 zeros32 (.slice none 0 0)
def OpenSaid (w : World) (B U tb g : Nat) (keys : List (List Nat)) (lasts : List Nat) (xs : List Addr) (b : List Nat) (e : Ending) (w' : World) : Prop :=
  ∃ bv, e = .returned (.tuple #[.agg (openF b bv).toArray, errV xs (openNo keys lasts b)]) ∧ (Wr.isFrame b = true → Cells w' (fun k => w.heap.size ≤ k) bv (ints .u8 (b.drop 41))) ∧ TableAt w' B U tb g keys (openLasts keys lasts b) ∧ Keep (fun k => k < w.heap.size ∧ k ≠ g) w w'

set_option maxRecDepth 100000 in
set_option maxHeartbeats 1000000 in
theorem open_bad (tb B U g : Nat) (keys : List (List Nat)) (lasts : List Nat) (xs : List Addr) (v : Value) (b : List Nat) (w : World) (p : Nat → Prop) (hx : ∀ x ∈ b, x < 256) (hf : Wr.isFrame b = false) (he : ErrsAt w errGs xs) (ht : TableAt w B U tb g keys lasts) (hv : Cells w p v (ints .u8 b)) :
    Calls Tryd.prog 37 #[.pointer (some ⟨tb, 0, none⟩), v] w (OpenSaid w B U tb g keys lasts xs b) := by
  have HT := hid ht
  have HV := hid (hv.lt.mono (q := fun b => b < w.heap.size) (fun _ h => h.1))
  have hF := errs_at he 10 _ rfl
  have HF := hid hF
  have HNO := hid (show openNo keys lasts b = 11 by unfold openNo; rw [if_pos hf])
  have HFR := hid hf
  have hi := frC_size zeros32_length 0 0 (.slice none 0 0)
  have h1 := frC_one 0 0 zeros32 (.slice none 0 0) rfl
  have hl35 := hid (show 35 = (frC 0 0 zeros32 (.slice none 0 0)).toArray.size by rw [List.size_toArray, frC_zero])
  clear ht hv hF he hf
  go_enter Tryd.func37, Tryd.ntmps37
  go_wp2_with fail
  refine calls_world (fun w1 => Keep (· < w.heap.size) w w1 ∧ w1.heap[w.heap.size]? = some (.cells (frC 0 0 zeros32 (.slice none 0 0)).toArray 49 (0, 0)) ∧ w.heap.size < w1.heap.size) ⟨(Keep.refl _ _).alloc _ (fun _ h => h), heap_alloc_new w _, by simp⟩ ?_
  rintro w1 ⟨k1, R1, z1⟩
  refine (get_bad v b (errV xs 11) w1 _ hx (HV.out.keep k1 (fun _ h => h)) HFR.out ((k1.cell (x := ⟨_, 0, none⟩) HF.out.2).trans HF.out.1) (Nat.lt_trans HF.out.2 z1)).mono ?_
  rintro e w2 ⟨rfl, k2⟩
  have H2 := hid (And.intro (k1.trans (k2.mono (fun b h => Nat.lt_trans h z1))) ((k2.block _ z1).trans R1))
  have z2 := Nat.lt_of_lt_of_le z1 k2.size
  have hev : errV xs 11 = .iface 217 (.pointer xs[10]?) := rfl
  rw [hev]
  clear k1 k2 R1 hev
  go_upto_region 3 with (first | refine wpList_store_row rfl 49 (.tmp 6) (.tmp 12) rfl w2.heap.size (frC 0 0 zeros32 (.slice none 0 0)).toArray rfl rfl 49 _ (heap_alloc_new w2 _) hi hl35.out h1 ?_)
  refine wp_world (fun w3 => Keep (· < w2.heap.size) w2 w3) (((Keep.refl _ _).alloc _ (fun _ h => h)).setRow _ (by simp)) ?_
  intro w3 k3
  have H3 := hid (And.intro (H2.out.1.trans (k3.mono (fun b h => by omega))) ((k3.block _ z2).trans H2.out.2))
  clear k3 H2
  go_wp2_with (refine wpList_store_row rfl 49 (.tmp 4) (.tmp 17) rfl w.heap.size (frC 0 0 zeros32 (.slice none 0 0)).toArray rfl rfl 49 _ H3.out.2 hi rfl h1 ?_)
  refine bodyPost_ret (v := .tuple #[.agg (frC 0 0 zeros32 (.slice none 0 0)).toArray, errV xs 11]) (results_cell_row_tmp rfl _ _ w.heap.size 49 _ (0, 0) _ rfl (heap_setRow H3.out.2 _) Tryd.underlying49 rfl hi _ rfl) rfl ?_
  have k4 := H3.out.1.setRow (b := w.heap.size) (frC 0 0 zeros32 (.slice none 0 0)).toArray (Nat.lt_irrefl _)
  refine ⟨.slice none 0 0, ?_, fun h => ?_, ?_, k4.mono (fun k h => h.1)⟩
  · rw [HNO.out]; unfold openF; rw [HFR.out]; rfl
  · rw [HFR.out] at h; cases h
  · have e : openLasts keys lasts b = lasts := by unfold openLasts; rw [HNO.out]; rfl
    rw [e]
    exact HT.out.keep k4 (fun j _ h => Nat.lt_of_lt_of_le h HT.out.lt.2.2.2.2.2)

/-- while a frame is opened: the result's cell, the frame's block. -/
structure OpAt (w0 w : World) (J : Nat) (F : List Value) (bv : Value) (body : List Nat) : Prop where
  keep : Keep (· < w0.heap.size) w0 w
  res : w.heap[w0.heap.size]? = some (.cells (frC 0 0 zeros32 (.slice none 0 0)).toArray 49 (0, 0))
  blk : w.heap[J]? = some (.cells F.toArray 49 (0, 0))
  body : Cells w (fun b => w0.heap.size < b ∧ b < J) bv (ints .u8 body)
theorem OpAt.next {w0 w w' : World} {J : Nat} {F : List Value} {bv : Value} {body : List Nat} {q : Nat → Prop} (h : OpAt w0 w J F bv body) (k : Keep q w w') (hq : ∀ b, b < w.heap.size → q b) : OpAt w0 w' J F bv body :=
  ⟨h.keep.trans (k.mono (fun b hb => hq b (Nat.lt_of_lt_of_le hb h.keep.size))), (k.block _ (hq _ (Array.getElem?_eq_some_iff.1 h.res).1)).trans h.res, (k.block _ (hq _ (Array.getElem?_eq_some_iff.1 h.blk).1)).trans h.blk, (h.body.lt.keep k (fun b hb => hq b hb.1)).mono (fun b hb => hb.2)⟩
theorem open_end {w w2 : World} {B U tb g : Nat} {keys : List (List Nat)} {lasts lasts' : List Nat} {xs : List Addr} {b : List Nat} {bv : Value} {n : Nat} (hfr : Wr.isFrame b = true) (hno : openNo keys lasts b = n)
    (hla : lasts' = if n = 0 then lasts.set (b.getD 0 0) (Wr.seqOf b) else lasts) (ht : TableAt w2 B U tb g keys lasts') (hb : Cells w2 (fun k => w.heap.size ≤ k) bv (ints .u8 (b.drop 41))) (hk : Keep (fun k => k < w.heap.size ∧ k ≠ g) w w2) :
    OpenSaid w B U tb g keys lasts xs b (.returned (.tuple #[.agg (frC (b.getD 0 0 : Nat) (Wr.seqOf b : Nat) (openTag b) bv).toArray, errV xs n])) w2 := by
  refine ⟨bv, ?_, fun _ => hb, ?_, hk⟩
  · rw [hno]; unfold openF; rw [hfr]; rfl
  · unfold openLasts; rw [hno, ← hla]; exact ht
theorem table_set {w : World} {B U tb g : Nat} {keys : List (List Nat)} {lasts : List Nat} (h : TableAt w B U tb g keys lasts) (i : Nat) (hi : i < keys.length) (s : Nat) : TableAt (w.setCell ⟨g, i * 2 + 1, none⟩ (.int .i64 (s : Int))) B U tb g keys (lasts.set i s) := by
  obtain ⟨cap, kvs, cur, h1, h2, h3, h4, h5, h6, h7, h8, h9⟩ := h
  have kk : Keep (· ≠ g) w (w.setCell ⟨g, i * 2 + 1, none⟩ (.int .i64 (s : Int))) := (Keep.refl _ _).setCell _ (fun h => h rfl)
  have hset := set_at (w := w) (b := g) (cs := cur.toList) (T := 136) (fr := (0, 0)) (by simpa using h2) (i * 2 + 1) (.int .i64 (s : Int))
  have hc0 : ∀ j, w.cell? ⟨g, j, none⟩ = cur.toList[j]? := fun j => cell_at (by simpa using h2) j
  have hc : ∀ j, (w.setCell ⟨g, i * 2 + 1, none⟩ (.int .i64 (s : Int))).cell? ⟨g, j, none⟩ = (cur.toList.set (i * 2 + 1) (.int .i64 (s : Int)))[j]? := fun j => cell_at hset j
  refine ⟨cap, kvs, _, (kk.block _ (fun e => h6 e.symm)).trans h1, hset, by rw [List.length_set]; exact h3, h4, h5, h6, h7, ⟨h8.1, h8.2.1, Nat.le_trans h8.2.2 kk.size⟩, fun j hj => ?_⟩
  obtain ⟨a, b, c⟩ := h9 j hj
  refine ⟨?_, ?_, c.keep kk (fun b hb => hb.2.2.2)⟩
  · rw [hc, List.getElem?_set_ne (by omega), ← hc0]; exact a
  · rw [hc]
    by_cases e : i = j
    · subst e
      have hlt : i * 2 + 1 < cur.toList.length := by
        rw [hc0] at b
        exact (List.getElem?_eq_some_iff.1 b).1
      rw [List.getElem?_set_self hlt, List.getD_eq_getElem?_getD, List.getElem?_set_self (by omega)]
      rfl
    · rw [List.getElem?_set_ne (by omega), ← hc0, b, List.getD_eq_getElem?_getD, List.getD_eq_getElem?_getD, List.getElem?_set_ne e]
theorem opat_err {w w1 : World} {J : Nat} {F : List Value} {bv : Value} {body : List Nat} (h : OpAt w w1 J F bv body) (cs : Array Value) :
    Keep (· < w.heap.size) w (w1.drew.setRow w.heap.size cs) ∧ Cells (w1.drew.setRow w.heap.size cs) (fun k => w.heap.size ≤ k) bv (ints .u8 body) := by
  have k9 : Keep (fun b => b ≠ w.heap.size) w1 (w1.drew.setRow w.heap.size cs) := ((Keep.refl _ _).drew).setRow _ (fun h => h rfl)
  exact ⟨h.keep.trans (k9.mono (fun b (hb : b < w.heap.size) => Nat.ne_of_lt hb)), (h.body.keep k9 (fun b hb => Nat.ne_of_gt hb.1)).mono (fun b hb => Nat.le_of_lt hb.1)⟩

set_option maxRecDepth 100000 in
set_option maxHeartbeats 4000000 in
theorem open_good (tb B U g : Nat) (keys : List (List Nat)) (lasts : List Nat) (xs : List Addr) (v : Value) (b : List Nat) (w : World) (p : Nat → Prop) (hx : ∀ x ∈ b, x < 256) (hkb : ∀ k ∈ keys, (∀ x ∈ k, x < 256) ∧ k.length ≤ 1099511627776) (hf : Wr.isFrame b = true) (hT : TurnsAt w) (he : ErrsAt w errGs xs) (ht : TableAt w B U tb g keys lasts) (hv : Cells w p v (ints .u8 b)) :
    Calls Tryd.prog 37 #[.pointer (some ⟨tb, 0, none⟩), v] w (OpenSaid w B U tb g keys lasts xs b) := by
  obtain ⟨hc1, hc2, hc3⟩ := (Wr.isFrame_iff b).1 hf
  have HB := hid ht
  have HTN := hid hT
  have HV := hid (hv.lt.mono (q := fun b => b < w.heap.size) (fun _ h => h.1))
  have HE := hid he
  have HX := hid hx
  have HFR := hid hf
  have HKB := hid hkb
  clear hv he hx hf hkb
  obtain ⟨x0, hx0⟩ : ∃ x, b.getD 0 0 = x := ⟨_, rfl⟩
  obtain ⟨sq, hsq⟩ : ∃ s, Wr.seqOf b = s := ⟨_, rfl⟩
  obtain ⟨tag, htag⟩ : ∃ t, (b.drop 9).take 32 = t := ⟨_, rfl⟩
  have htl : tag.length = 32 := by rw [← htag, List.length_take, List.length_drop]; omega
  have htb : ∀ x ∈ tag, x < 256 := fun x hx => HX.out x (by rw [← htag] at hx; exact List.mem_of_mem_drop (List.mem_of_mem_take hx))
  have hx256 : x0 < 256 := by rw [← hx0, List.getD_eq_getElem?_getD, List.getElem?_eq_getElem (by omega)]; exact HX.out _ (List.getElem_mem _)
  have hform : Wr.form (x0 : Int) (sq : Int) (b.drop 41).length = true := (Wr.form_iff _ _ _).2 ⟨by omega, by omega, by omega, by rw [← hsq]; omega, by rw [List.length_drop]; omega⟩
  have HFO := hid hform
  have HTB := hid htb
  have HQ := hid (And.intro hx0 (And.intro hsq htag))
  -- which error
  have HNO := hid (show openNo keys lasts b = if keys.length ≤ x0 then 17 else if Sha.tag (keys.getD x0 []) (Wr.signed (x0 : Nat) (sq : Nat) (b.drop 41)) ≠ tag then 12 else if sq ≤ lasts.getD x0 0 then 13 else 0 by
    unfold openNo openTag; rw [HFR.out, hx0, hsq, htag]; rfl)
  obtain ⟨cap, kvs, cur, h1, h2, h3, h4, h5, h6, h7, h8, h9⟩ := ht
  have ct0 : w.cell? ⟨tb, 0, none⟩ = some (.slice (some ⟨g, 0, none⟩) keys.length cap) := by have := cell_at (cs := [.slice (some ⟨g, 0, none⟩) keys.length cap]) h1 0; simpa using this
  have ztb := Nat.lt_of_lt_of_le HB.out.lt.2.1 HB.out.lt.2.2.2.2.2
  have zg := Nat.lt_of_lt_of_le HB.out.lt.2.2.2.1 HB.out.lt.2.2.2.2.2
  have H9 := hid h9
  have CT := hid ct0
  have HG2 := hid h2
  obtain ⟨L, hL⟩ : ∃ L, keys.length = L := ⟨_, rfl⟩
  have HL := hid hL
  clear hx0 hsq htag hform h1 h2 h3 h6 h7 h8 h9 htb hT hL
  go_enter Tryd.func37, Tryd.ntmps37
  go_wp2_with fail
  refine calls_world (fun w1 => Keep (· < w.heap.size) w w1 ∧ w1.heap[w.heap.size]? = some (.cells (frC 0 0 zeros32 (.slice none 0 0)).toArray 49 (0, 0)) ∧ w.heap.size < w1.heap.size) ⟨(Keep.refl _ _).alloc _ (fun _ h => h), heap_alloc_new w _, by simp⟩ ?_
  rintro w1 ⟨k1, R1, z1⟩
  refine (get_good v b w1 _ HX.out (HV.out.keep k1 (fun _ h => h)) HFR.out).mono ?_
  rintro e w2 ⟨b', rfl, fb, k2, z2⟩
  rw [HQ.out.1, HQ.out.2.1, HQ.out.2.2]
  obtain ⟨ba, bn, bc, rfl⟩ := cells_form fb.cells
  have H2 := hid (And.intro (k1.trans (k2.mono (fun b h => Nat.lt_trans h z1))) (And.intro ((k2.block _ z1).trans R1) fb))
  have z2' := Nat.lt_of_lt_of_le z1 z2
  clear k1 k2 R1 fb
  have hi := frC_size htl (x0 : Int) (sq : Int) (.slice ba bn bc)
  have h1 := frC_one (x0 : Int) (sq : Int) tag (.slice ba bn bc) rfl
  have hl35 := hid (show (frC 0 0 zeros32 (.slice none 0 0)).toArray.size = (frC (x0 : Int) (sq : Int) tag (.slice ba bn bc)).toArray.size by rw [List.size_toArray, List.size_toArray, frC_zero, frC_length htl])
  go_upto_region 4 with (first | refine wpList_store_row rfl 49 (.tmp 6) (.tmp 12) rfl w2.heap.size (frC (x0 : Int) (sq : Int) tag (.slice ba bn bc)).toArray rfl rfl 49 _ (heap_alloc_new w2 _) hi hl35.out h1 ?_)
  refine wp_world (fun w3 => Keep (· < w2.heap.size) w2 w3 ∧ w3.heap[w2.heap.size]? = some (.cells (frC (x0 : Int) (sq : Int) tag (.slice ba bn bc)).toArray 49 (0, 0)) ∧ w2.heap.size < w3.heap.size) ⟨((Keep.refl _ _).alloc _ (fun _ h => h)).setRow _ (by simp), heap_setRow (heap_alloc_new w2 _) _, by simp⟩ ?_
  rintro w3 ⟨k3, F3, z3⟩
  obtain ⟨J, hJ⟩ : ∃ J, w2.heap.size = J := ⟨_, rfl⟩
  have zJ : w.heap.size < J := by rw [← hJ]; exact z2'
  have hop : OpAt w w3 J (frC (x0 : Int) (sq : Int) tag (.slice ba bn bc)) (.slice ba bn bc) (b.drop 41) := by
    rw [← hJ]
    exact ⟨H2.out.1.trans (k3.mono (fun b h => by omega)), (k3.block _ z2').trans H2.out.2.1, F3, (H2.out.2.2.cells.lt.keep k3 (fun b hb => hb.1)).mono (fun b hb => ⟨Nat.lt_of_lt_of_le z1 hb.2, hb.1⟩)⟩
  rw [hJ] at z3 ⊢
  have H3 := hid hop
  clear k3 F3 hJ hop H2 z2'
  have ct := (H3.out.keep.cell (x := ⟨tb, 0, none⟩) ztb).trans CT.out
  have cj0 := (cell_at H3.out.blk 0).trans (frC_0 _ _ _ _)
  rw [HL.out] at ct h4
  refine wp_region_plan [true, true, true, true, true, true, true, true, false] (.free 0 (.free 1 (.free 2 (.free 3 (.free 4 (.free 5 (.free 6 (.free 7 (.last 8)))))))))
    (fun wx => wx.cell? ⟨J, 0, none⟩ = some (.int .i64 (x0 : Int)) ∧ wx.cell? ⟨tb, 0, none⟩ = some (.slice (some ⟨g, 0, none⟩) L cap)) (by kernel_rfl) (by kernel_rfl) ⟨cj0, ct⟩ ?_
  clear cj0 ct
  refine plan_free rfl rfl (fun K hK => ?_); go_simp; refine hK _ ?_; clear hK K
  refine plan_held (.int .i64 (x0 : Int)) rfl rfl (fun w0 h0 => by obtain ⟨h0, _⟩ := h0; go_simp) (fun K hK => ?_); refine hK _ ?_; clear hK K
  iterate 3 (refine plan_free rfl rfl (fun K hK => ?_); go_simp; refine hK _ ?_; clear hK K)
  refine plan_held (.slice (some ⟨g, 0, none⟩) L cap) rfl rfl (fun w0 h0 => by obtain ⟨_, h0⟩ := h0; go_simp) (fun K hK => ?_); refine hK _ ?_; clear hK K
  refine plan_free rfl rfl (fun K hK => ?_); go_simp; refine hK _ ?_; clear hK K
  have tail : True := trivial
  by_cases hlt : L ≤ x0
  · have t1 : decide (L ≤ x0) = true := by simpa using hlt
    have HN := hid (show openNo keys lasts b = 17 by rw [HNO.out, HL.out, if_pos hlt])
    clear hlt
    refine plan_free rfl rfl (fun K hK => ?_); go_simp; refine hK _ ?_; clear hK K
    refine plan_last rfl rfl (fun K hK => ?_); go_simp; refine hK _ _ ?_; clear hK K
    have H4 := hid (H3.out.next ((Keep.refl (fun _ => True) w3).drew) (fun _ _ => trivial))
    obtain ⟨w4, hw4⟩ : ∃ w4, w3.drew = w4 := ⟨_, rfl⟩
    rw [hw4] at H4 ⊢
    clear hw4
    go_upto_region 5 with fail
    have ce := (H4.out.keep.cell (x := ⟨16, 0, none⟩) (errs_at HE.out 16 _ rfl).2).trans (errs_at HE.out 16 _ rfl).1
    have hge : 16 < w.heap.size := (errs_at HE.out 16 _ rfl).2
    refine wp_region_plan [true, true, false, false] (.free 0 (.free 1 (.one 2 (.last 3)))) (fun wx => wx.rangeAt J 0 (frC (x0 : Int) (sq : Int) tag (.slice ba bn bc)) ∧ wx.cell? ⟨16, 0, none⟩ = some (errV xs 17)) (by kernel_rfl) (by kernel_rfl) ⟨range_whole (show w4.drew.heap[J]? = _ from H4.out.blk), ce⟩ ?_
    refine plan_load rfl rfl 49 (.tmp 6) rfl J 0 rfl (frC (x0 : Int) (sq : Int) tag (.slice ba bn bc)) _ (fun wx h => h.1) Tryd.underlying49 rfl (by simpa using hi) (fun K hK => ?_)
    refine hK _ ?_
    clear hK K
    refine plan_held (errV xs 17) rfl rfl (fun w0 h0 => by obtain ⟨_, h0⟩ := h0; go_simp) (fun K hK => ?_); refine hK _ ?_; clear hK K
    refine plan_one rfl rfl (fun K hK => ?_)
    refine wp_store_row 49 (.tmp 4) (.tmp 28) rfl w.heap.size (frC (x0 : Int) (sq : Int) tag (.slice ba bn bc)).toArray rfl rfl 49 _ (show w4.drew.heap[w.heap.size]? = _ from H4.out.res) hi hl35.out h1 ?_
    have k9 : Keep (fun b => b ≠ w.heap.size) w4 (w4.drew.setRow w.heap.size (frC (x0 : Int) (sq : Int) tag (.slice ba bn bc)).toArray) := ((Keep.refl _ _).drew).setRow _ (fun h => h rfl)
    have R9 := hid (heap_setRow (show w4.drew.heap[w.heap.size]? = _ from H4.out.res) (frC (x0 : Int) (sq : Int) tag (.slice ba bn bc)).toArray)
    refine hK _ _ ⟨⟨range_whole ((k9.block J (Nat.ne_of_gt zJ)).trans H4.out.blk), (k9.cell (x := ⟨16, 0, none⟩) (Nat.ne_of_lt hge)).trans ce⟩, ?_⟩
    have HS := hid (opat_err H4.out (frC (x0 : Int) (sq : Int) tag (.slice ba bn bc)).toArray)
    clear hK K k9 ce
    refine plan_last rfl rfl (fun K hK => ?_); go_simp
    refine hK _ _ ?_
    clear hK K
    go_wp2_with fail
    refine bodyPost_ret (v := .tuple #[.agg (frC (x0 : Int) (sq : Int) tag (.slice ba bn bc)).toArray, errV xs 17]) (results_cell_row_tmp rfl _ _ w.heap.size 49 _ (0, 0) _ rfl R9.out Tryd.underlying49 rfl hi _ rfl) rfl ?_
    have hfin := open_end (xs := xs) (bv := .slice ba bn bc) HFR.out HN.out rfl (HB.out.keep HS.out.1 (fun j _ h => Nat.lt_of_lt_of_le h HB.out.lt.2.2.2.2.2)) HS.out.2 (HS.out.1.mono (fun k h => h.1))
    rw [HQ.out.1, HQ.out.2.1, show openTag b = tag from HQ.out.2.2] at hfin
    exact hfin
  have t1 : decide (L ≤ x0) = false := by simpa using hlt
  have l0 : (x0 : Int) < (L : Int) := by omega
  have hlt' : x0 < L := by omega
  have HNO2 := hid (show openNo keys lasts b = if Sha.tag (keys.getD x0 []) (Wr.signed (x0 : Nat) (sq : Nat) (b.drop 41)) ≠ tag then 12 else if sq ≤ lasts.getD x0 0 then 13 else 0 by rw [HNO.out, HL.out, if_neg hlt])
  clear hlt tail
  refine plan_free rfl rfl (fun K hK => ?_); go_simp; refine hK _ ?_; clear hK K
  refine plan_last rfl rfl (fun K hK => ?_); go_simp; refine hK _ _ ?_; clear hK K
  have H4 := hid (H3.out.next ((Keep.refl (fun _ => True) w3).drew) (fun _ _ => trivial))
  obtain ⟨w4, hw4⟩ : ∃ w4, w3.drew = w4 := ⟨_, rfl⟩
  have z4 : J < w4.heap.size := by rw [← hw4]; exact z3
  rw [hw4] at H4 ⊢
  clear hw4 H3 z3
  go_upto_region 6 with fail
  have ct := (H4.out.keep.cell (x := ⟨tb, 0, none⟩) ztb).trans CT.out
  have cj0 := (cell_at H4.out.blk 0).trans (frC_0 _ _ _ _)
  rw [HL.out] at ct
  refine wp_region_plan [true, true, true, true, true, true, true, false] (.free 0 (.free 1 (.free 2 (.free 3 (.free 4 (.free 5 (.free 6 (.last 7))))))))
    (fun wx => wx.cell? ⟨J, 0, none⟩ = some (.int .i64 (x0 : Int)) ∧ wx.cell? ⟨tb, 0, none⟩ = some (.slice (some ⟨g, 0, none⟩) L cap)) (by kernel_rfl) (by kernel_rfl) ⟨cj0, ct⟩ ?_
  clear cj0 ct
  iterate 3 (refine plan_free rfl rfl (fun K hK => ?_); go_simp; refine hK _ ?_; clear hK K)
  refine plan_held (.slice (some ⟨g, 0, none⟩) L cap) rfl rfl (fun w0 h0 => by obtain ⟨_, h0⟩ := h0; go_simp) (fun K hK => ?_); refine hK _ ?_; clear hK K
  refine plan_free rfl rfl (fun K hK => ?_); go_simp; refine hK _ ?_; clear hK K
  refine plan_held (.int .i64 (x0 : Int)) rfl rfl (fun w0 h0 => by obtain ⟨h0, _⟩ := h0; go_simp) (fun K hK => ?_); refine hK _ ?_; clear hK K
  refine plan_free rfl rfl (fun K hK => ?_); go_simp; refine hK _ ?_; clear hK K
  refine plan_last rfl rfl (fun K hK => ?_); go_simp; refine hK _ _ ?_; clear hK K
  have H5 := hid (H4.out.next ((Keep.refl (fun _ => True) w4).drew) (fun _ _ => trivial))
  obtain ⟨w5, hw5⟩ : ∃ w5, w4.drew = w5 := ⟨_, rfl⟩
  have z5 : J < w5.heap.size := by rw [← hw5]; exact z4
  rw [hw5] at H5 ⊢
  clear hw5 H4 z4
  go_upto_region 7 with fail
  obtain ⟨h91, h92, h93⟩ := H9.out x0 (by rw [HL.out]; exact hlt')
  obtain ⟨kva, kvn, kvc, hkv⟩ := cells_form h93
  rw [hkv] at h91 h93
  have ck := (H5.out.keep.cell (x := ⟨g, x0 * 2, none⟩) zg).trans h91
  have H93 := hid h93
  have H92 := hid h92
  have hmem : keys.getD x0 [] ∈ keys := by
    rw [List.getD_eq_getElem?_getD, List.getElem?_eq_getElem (by rw [HL.out]; exact hlt')]
    exact List.getElem_mem _
  have HM := hid (HKB.out _ hmem)
  obtain ⟨key, hkey⟩ : ∃ k, keys.getD x0 [] = k := ⟨_, rfl⟩
  rw [hkey] at H93 HM HNO2
  clear h91 h92 h93 hmem hkv hkey
  refine wp_region_plan [true, true, true, true, true, false, true, false] (.free 0 (.free 1 (.free 2 (.free 3 (.free 4 (.one 5 (.free 6 (.last 7))))))))
    (fun wx => wx.cell? ⟨g, x0 * 2, none⟩ = some (.slice kva kvn kvc) ∧ wx.rangeAt J 0 (frC (x0 : Int) (sq : Int) tag (.slice ba bn bc))) (by kernel_rfl) (by kernel_rfl) ⟨ck, range_whole (show w5.drew.heap[J]? = _ from H5.out.blk)⟩ ?_
  iterate 3 (refine plan_free rfl rfl (fun K hK => ?_); go_simp; refine hK _ ?_; clear hK K)
  refine plan_held (.slice kva kvn kvc) rfl rfl (fun w0 h0 => by obtain ⟨h0, _⟩ := h0; go_simp) (fun K hK => ?_); refine hK _ ?_; clear hK K
  refine plan_load rfl rfl 49 (.tmp 6) rfl J 0 rfl (frC (x0 : Int) (sq : Int) tag (.slice ba bn bc)) _ (fun wx h => h.2) Tryd.underlying49 rfl (by simpa using hi) (fun K hK => ?_)
  refine hK _ ?_
  clear hK K
  have zw5 := H5.out.keep.size
  refine plan_one rfl rfl (fun K hK => ?_); go_simp
  refine (right_good _ _ key tag (b.drop 41) (x0 : Int) (sq : Int) w5.drew _ _ HM.out.1 (fun x hx => HX.out x (List.mem_of_mem_drop hx)) HTB.out htl HM.out.2 HFO.out (HTN.out.keep (H5.out.keep.drewN 1) HTN.out.lt) (H93.out.lt.keep (H5.out.keep.drewN 1) (fun _ h => h.1)) (show Cells w5.drew _ _ _ from H5.out.body)).mono ?_
  rintro e w6 ⟨rfl, k6'⟩
  have k6 : Keep (· < w5.heap.size) w5 w6 := ((Keep.refl _ w5).drew).trans k6'
  have H6 := hid (H5.out.next k6 (fun _ h => h))
  have z6 : J < w6.heap.size := Nat.lt_of_lt_of_le z5 k6.size
  refine hK _ _ ⟨⟨(k6.cell (x := ⟨g, x0 * 2, none⟩) (Nat.lt_of_lt_of_le zg zw5)).trans ck, range_whole H6.out.blk⟩, ?_⟩
  clear hK K k6 k6' ck H5 z5
  obtain ⟨ok, hok⟩ : ∃ ok, decide (Sha.tag key (Wr.signed (x0 : Int) (sq : Int) (b.drop 41)) = tag) = ok := ⟨_, rfl⟩
  rw [hok]
  have HOK := hid hok
  clear hok
  refine plan_free rfl rfl (fun K hK => ?_); go_simp; refine hK _ ?_; clear hK K
  refine plan_last rfl rfl (fun K hK => ?_); go_simp; refine hK _ _ ?_; clear hK K
  cases ok with
  | false =>
    have hne : Sha.tag key (Wr.signed (x0 : Int) (sq : Int) (b.drop 41)) ≠ tag := by have := HOK.out; simpa using this
    have HN := hid (show openNo keys lasts b = 12 by rw [HNO2.out, if_pos hne])
    clear hne HOK HNO2 HNO
    go_upto_region 8 with fail
    have ce := (H6.out.keep.cell (x := ⟨12, 0, none⟩) (errs_at HE.out 11 _ rfl).2).trans (errs_at HE.out 11 _ rfl).1
    have hge : 12 < w.heap.size := (errs_at HE.out 11 _ rfl).2
    refine wp_region_plan [true, true, false, false] (.free 0 (.free 1 (.one 2 (.last 3)))) (fun wx => wx.rangeAt J 0 (frC (x0 : Int) (sq : Int) tag (.slice ba bn bc)) ∧ wx.cell? ⟨12, 0, none⟩ = some (errV xs 12)) (by kernel_rfl) (by kernel_rfl) ⟨range_whole (show w6.drew.heap[J]? = _ from H6.out.blk), ce⟩ ?_
    refine plan_load rfl rfl 49 (.tmp 6) rfl J 0 rfl (frC (x0 : Int) (sq : Int) tag (.slice ba bn bc)) _ (fun wx h => h.1) Tryd.underlying49 rfl (by simpa using hi) (fun K hK => ?_)
    refine hK _ ?_
    clear hK K
    refine plan_held (errV xs 12) rfl rfl (fun w0 h0 => by obtain ⟨_, h0⟩ := h0; go_simp) (fun K hK => ?_); refine hK _ ?_; clear hK K
    refine plan_one rfl rfl (fun K hK => ?_)
    refine wp_store_row 49 (.tmp 4) (.tmp 45) rfl w.heap.size (frC (x0 : Int) (sq : Int) tag (.slice ba bn bc)).toArray rfl rfl 49 _ (show w6.drew.heap[w.heap.size]? = _ from H6.out.res) hi hl35.out h1 ?_
    have k9 : Keep (fun b => b ≠ w.heap.size) w6 (w6.drew.setRow w.heap.size (frC (x0 : Int) (sq : Int) tag (.slice ba bn bc)).toArray) := ((Keep.refl _ _).drew).setRow _ (fun h => h rfl)
    have R9 := hid (heap_setRow (show w6.drew.heap[w.heap.size]? = _ from H6.out.res) (frC (x0 : Int) (sq : Int) tag (.slice ba bn bc)).toArray)
    refine hK _ _ ⟨⟨range_whole ((k9.block J (Nat.ne_of_gt zJ)).trans H6.out.blk), (k9.cell (x := ⟨12, 0, none⟩) (Nat.ne_of_lt hge)).trans ce⟩, ?_⟩
    have HS := hid (opat_err H6.out (frC (x0 : Int) (sq : Int) tag (.slice ba bn bc)).toArray)
    clear hK K k9 ce
    refine plan_last rfl rfl (fun K hK => ?_); go_simp
    refine hK _ _ ?_
    clear hK K
    go_wp2_with fail
    refine bodyPost_ret (v := .tuple #[.agg (frC (x0 : Int) (sq : Int) tag (.slice ba bn bc)).toArray, errV xs 12]) (results_cell_row_tmp rfl _ _ w.heap.size 49 _ (0, 0) _ rfl R9.out Tryd.underlying49 rfl hi _ rfl) rfl ?_
    have hfin := open_end (xs := xs) (bv := .slice ba bn bc) HFR.out HN.out rfl (HB.out.keep HS.out.1 (fun j _ h => Nat.lt_of_lt_of_le h HB.out.lt.2.2.2.2.2)) HS.out.2 (HS.out.1.mono (fun k h => h.1))
    rw [HQ.out.1, HQ.out.2.1, show openTag b = tag from HQ.out.2.2] at hfin
    exact hfin
  | true =>
    have hne : Sha.tag key (Wr.signed (x0 : Int) (sq : Int) (b.drop 41)) = tag := by have := HOK.out; simpa using this
    have HN0 := hid (show openNo keys lasts b = if sq ≤ lasts.getD x0 0 then 13 else 0 by rw [HNO2.out, if_neg (by rw [hne]; simp)])
    clear hne HOK HNO2 HNO
    obtain ⟨la, hla⟩ : ∃ la, lasts.getD x0 0 = la := ⟨_, rfl⟩
    rw [hla] at HN0 H92
    go_upto_region 9 with fail
    have cl := (H6.out.keep.cell (x := ⟨g, x0 * 2 + 1, none⟩) zg).trans H92.out
    have cj1 := (cell_at H6.out.blk 1).trans (frC_1 _ _ _ _)
    clear hla
    refine wp_region_plan [true, true, true, true, true, true, true, false] (.free 0 (.free 1 (.free 2 (.free 3 (.free 4 (.free 5 (.free 6 (.last 7))))))))
      (fun wx => wx.cell? ⟨J, 1, none⟩ = some (.int .i64 (sq : Int)) ∧ wx.cell? ⟨g, x0 * 2 + 1, none⟩ = some (.int .i64 (la : Int))) (by kernel_rfl) (by kernel_rfl) ⟨cj1, cl⟩ ?_
    clear cl cj1
    refine plan_free rfl rfl (fun K hK => ?_); go_simp; refine hK _ ?_; clear hK K
    refine plan_held (.int .i64 (sq : Int)) rfl rfl (fun w0 h0 => by obtain ⟨h0, _⟩ := h0; go_simp) (fun K hK => ?_); refine hK _ ?_; clear hK K
    iterate 3 (refine plan_free rfl rfl (fun K hK => ?_); go_simp; refine hK _ ?_; clear hK K)
    refine plan_held (.int .i64 (la : Int)) rfl rfl (fun w0 h0 => by obtain ⟨_, h0⟩ := h0; go_simp) (fun K hK => ?_); refine hK _ ?_; clear hK K
    have H7 := hid (H6.out.next ((Keep.refl (fun _ => True) w6).drew) (fun _ _ => trivial))
    by_cases hsl : sq ≤ la
    · have t2 : decide (sq ≤ la) = true := by simpa using hsl
      have HN := hid (show openNo keys lasts b = 13 by rw [HN0.out, if_pos hsl])
      clear hsl
      refine plan_free rfl rfl (fun K hK => ?_); go_simp; refine hK _ ?_; clear hK K
      refine plan_last rfl rfl (fun K hK => ?_); go_simp; refine hK _ _ ?_; clear hK K
      obtain ⟨w7, hw7⟩ : ∃ w7, w6.drew = w7 := ⟨_, rfl⟩
      rw [hw7] at H7 ⊢
      clear hw7
      go_upto_region 10 with fail
      have ce := (H7.out.keep.cell (x := ⟨13, 0, none⟩) (errs_at HE.out 12 _ rfl).2).trans (errs_at HE.out 12 _ rfl).1
      have hge : 13 < w.heap.size := (errs_at HE.out 12 _ rfl).2
      refine wp_region_plan [true, true, false, false] (.free 0 (.free 1 (.one 2 (.last 3)))) (fun wx => wx.rangeAt J 0 (frC (x0 : Int) (sq : Int) tag (.slice ba bn bc)) ∧ wx.cell? ⟨13, 0, none⟩ = some (errV xs 13)) (by kernel_rfl) (by kernel_rfl) ⟨range_whole (show w7.drew.heap[J]? = _ from H7.out.blk), ce⟩ ?_
      refine plan_load rfl rfl 49 (.tmp 6) rfl J 0 rfl (frC (x0 : Int) (sq : Int) tag (.slice ba bn bc)) _ (fun wx h => h.1) Tryd.underlying49 rfl (by simpa using hi) (fun K hK => ?_)
      refine hK _ ?_
      clear hK K
      refine plan_held (errV xs 13) rfl rfl (fun w0 h0 => by obtain ⟨_, h0⟩ := h0; go_simp) (fun K hK => ?_); refine hK _ ?_; clear hK K
      refine plan_one rfl rfl (fun K hK => ?_)
      refine wp_store_row 49 (.tmp 4) (.tmp 55) rfl w.heap.size (frC (x0 : Int) (sq : Int) tag (.slice ba bn bc)).toArray rfl rfl 49 _ (show w7.drew.heap[w.heap.size]? = _ from H7.out.res) hi hl35.out h1 ?_
      have k9 : Keep (fun b => b ≠ w.heap.size) w7 (w7.drew.setRow w.heap.size (frC (x0 : Int) (sq : Int) tag (.slice ba bn bc)).toArray) := ((Keep.refl _ _).drew).setRow _ (fun h => h rfl)
      have R9 := hid (heap_setRow (show w7.drew.heap[w.heap.size]? = _ from H7.out.res) (frC (x0 : Int) (sq : Int) tag (.slice ba bn bc)).toArray)
      refine hK _ _ ⟨⟨range_whole ((k9.block J (Nat.ne_of_gt zJ)).trans H7.out.blk), (k9.cell (x := ⟨13, 0, none⟩) (Nat.ne_of_lt hge)).trans ce⟩, ?_⟩
      have HS := hid (opat_err H7.out (frC (x0 : Int) (sq : Int) tag (.slice ba bn bc)).toArray)
      clear hK K k9 ce
      refine plan_last rfl rfl (fun K hK => ?_); go_simp
      refine hK _ _ ?_
      clear hK K
      go_wp2_with fail
      refine bodyPost_ret (v := .tuple #[.agg (frC (x0 : Int) (sq : Int) tag (.slice ba bn bc)).toArray, errV xs 13]) (results_cell_row_tmp rfl _ _ w.heap.size 49 _ (0, 0) _ rfl R9.out Tryd.underlying49 rfl hi _ rfl) rfl ?_
      have hfin := open_end (xs := xs) (bv := .slice ba bn bc) HFR.out HN.out rfl (HB.out.keep HS.out.1 (fun j _ h => Nat.lt_of_lt_of_le h HB.out.lt.2.2.2.2.2)) HS.out.2 (HS.out.1.mono (fun k h => h.1))
      rw [HQ.out.1, HQ.out.2.1, show openTag b = tag from HQ.out.2.2] at hfin
      exact hfin
    · have t2 : decide (sq ≤ la) = false := by simpa using hsl
      have HN := hid (show openNo keys lasts b = 0 by rw [HN0.out, if_neg hsl])
      clear hsl
      refine plan_free rfl rfl (fun K hK => ?_); go_simp; refine hK _ ?_; clear hK K
      refine plan_last rfl rfl (fun K hK => ?_); go_simp; refine hK _ _ ?_; clear hK K
      obtain ⟨w7, hw7⟩ : ∃ w7, w6.drew = w7 := ⟨_, rfl⟩
      have z7 : J < w7.heap.size := by rw [← hw7]; exact z6
      rw [hw7] at H7 ⊢
      clear hw7 H6
      have cj1 := (cell_at H7.out.blk 1).trans (frC_1 _ _ _ _)
      have cl := (H7.out.keep.cell (x := ⟨g, x0 * 2 + 1, none⟩) zg).trans H92.out
      have fl : w7.frozen? ⟨g, x0 * 2 + 1, none⟩ = false := by
        have := (H7.out.keep.block g zg).trans HG2.out
        simp [World.frozen?, this]
      go_upto_region 12 with fail
      have k8 : Keep (fun b => b ≠ g) w7 (w7.setCell ⟨g, x0 * 2 + 1, none⟩ (.int .i64 (sq : Int))) := (Keep.refl _ _).setCell _ (fun h => h rfl)
      have hT8 : TableAt (w7.setCell ⟨g, x0 * 2 + 1, none⟩ (.int .i64 (sq : Int))) B U tb g keys (lasts.set x0 sq) := table_set (HB.out.keep H7.out.keep (fun j _ h => Nat.lt_of_lt_of_le h HB.out.lt.2.2.2.2.2)) x0 (by rw [HL.out]; exact hlt') sq
      refine wp_world (fun w8 => Keep (fun b => b ≠ g) w7 w8 ∧ TableAt w8 B U tb g keys (lasts.set x0 sq)) ⟨k8, hT8⟩ ?_
      rintro w8 ⟨k8', hT8'⟩
      have hne1 : w.heap.size ≠ g := Nat.ne_of_gt zg
      have hneJ : J ≠ g := Nat.ne_of_gt (Nat.lt_trans zg zJ)
      have H8 := hid (And.intro ((k8'.block _ hne1).trans H7.out.res) (And.intro ((k8'.block _ hneJ).trans H7.out.blk) (And.intro hT8' (And.intro (H7.out.body.keep k8' (fun b hb => Nat.ne_of_gt (Nat.lt_trans zg hb.1))) (show Keep (fun k => k < w.heap.size ∧ k ≠ g) w w8 from (H7.out.keep.mono (fun b (h : b < w.heap.size ∧ b ≠ g) => h.1)).trans (k8'.mono (fun b h => h.2)))))))
      clear k8 hT8 k8' hT8' cj1 cl fl H7
      go_wp2_with (first | refine wpList_load_row rfl 49 (.tmp 6) rfl J rfl 49 _ (0, 0) _ H8.out.2.1 Tryd.underlying49 rfl hi ?_ | refine wpList_store_row rfl 49 (.tmp 4) (.tmp 62) rfl w.heap.size (frC (x0 : Int) (sq : Int) tag (.slice ba bn bc)).toArray rfl rfl 49 _ H8.out.1 hi hl35.out h1 ?_)
      refine bodyPost_ret (v := .tuple #[.agg (frC (x0 : Int) (sq : Int) tag (.slice ba bn bc)).toArray, .nilIface]) (results_cell_row_tmp rfl _ _ w.heap.size 49 _ (0, 0) _ rfl (heap_setRow H8.out.1 _) Tryd.underlying49 rfl hi _ rfl) rfl ?_
      have k9 : Keep (fun b => b ≠ w.heap.size) w8 (w8.setRow w.heap.size (frC (x0 : Int) (sq : Int) tag (.slice ba bn bc)).toArray) := (Keep.refl _ _).setRow _ (fun h => h rfl)
      have hT9 := H8.out.2.2.1.keep k9 (fun b _ hb => Nat.ne_of_lt (Nat.lt_of_lt_of_le hb HB.out.lt.2.2.2.2.2))
      have hfin := open_end (xs := xs) (bv := .slice ba bn bc) HFR.out HN.out (lasts' := lasts.set x0 sq) (by rw [if_pos rfl, HQ.out.1, HQ.out.2.1]) hT9 ((H8.out.2.2.2.1.keep k9 (fun b hb => Nat.ne_of_gt hb.1)).mono (fun b hb => Nat.le_of_lt hb.1)) (H8.out.2.2.2.2.trans (k9.mono (fun b h => Nat.ne_of_lt h.1)))
      rw [HQ.out.1, HQ.out.2.1, show openTag b = tag from HQ.out.2.2] at hfin
      exact hfin
end Go.Proofs.YtnpneippahdigaaDoor
