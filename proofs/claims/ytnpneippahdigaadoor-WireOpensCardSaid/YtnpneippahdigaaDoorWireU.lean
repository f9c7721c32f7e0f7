/-
  Step by step: 'Open' of the reference 21's table.
-/
import Derived.Test.YtnpneippahdigaaDoorWireM
import Derived.Test.YtnpneippahdigaaDoorWireH2
import Derived.Test.YtnpneippahdigaaDoorRefTag
namespace Go.Proofs.YtnpneippahdigaaDoor
open Go.RowKit Go.Proofs.Mem Go.Proofs.Txt

/-- the reference's hasher, all of it in blocks below U. -/
def WordsIn (w : World) (hb U : Nat) : Prop :=
  ∃ sv tv, w.heap[hb]? = some (.cells #[sv, tv] 140 (0, 0)) ∧ Row w 142 sv (ints .u32 Sha.St.new.ws) ∧ Row w 142 tv (ints .u32 Sha.turns) ∧
    (∀ k, sv.ownBlock = some k → (hb < k ∧ k < U) ∧ tv.ownBlock ≠ some k) ∧ (∀ k, tv.ownBlock = some k → hb < k ∧ k < U) ∧ hb < U ∧ U ≤ w.heap.size
theorem WordsIn.at_ {w : World} {hb U : Nat} (h : WordsIn w hb U) : WordsAt w hb Sha.St.new.ws Sha.turns := by
  obtain ⟨sv, tv, h1, h2, h3, h4, h5, _⟩ := h
  exact ⟨sv, tv, h1, h2, h3, fun k hk => ⟨(h4 k hk).1.1, (h4 k hk).2⟩, fun k hk => (h5 k hk).1⟩
theorem WordsIn.of {w : World} {hb : Nat} (h : WordsAt w hb Sha.St.new.ws Sha.turns) : WordsIn w hb w.heap.size := by
  obtain ⟨sv, tv, h1, h2, h3, h4, h5⟩ := h
  exact ⟨sv, tv, h1, h2, h3, fun k hk => ⟨⟨(h4 k hk).1, h2.lt hk⟩, (h4 k hk).2⟩, fun k hk => ⟨h5 k hk, h3.lt hk⟩, (Array.getElem?_eq_some_iff.1 h1).1, Nat.le_refl _⟩
theorem WordsIn.keep {w w' : World} {hb U : Nat} {q : Nat → Prop} (h : WordsIn w hb U) (k : Keep q w w') (hq : ∀ j, hb ≤ j → j < U → q j) : WordsIn w' hb U := by
  obtain ⟨sv, tv, h1, h2, h3, h4, h5, h6, h7⟩ := h
  exact ⟨sv, tv, (k.block _ (hq _ (Nat.le_refl _) h6)).trans h1, h2.keep k (fun j hj => hq j (Nat.le_of_lt (h4 j hj).1.1) (h4 j hj).1.2), h3.keep k (fun j hj => hq j (Nat.le_of_lt (h5 j hj).1) (h5 j hj).2), h4, h5, h6, Nat.le_trans h7 k.size⟩

/-- the model's table. -/
structure MTab (w : World) (mb hb lb U : Nat) (a : Option Addr) (c L : Nat) (lasts : List Nat) : Prop where
  blk : w.heap[mb]? = some (.cells ([.pointer (some ⟨hb, 0, none⟩), .slice a L c, .slice (some ⟨lb, 0, none⟩) L L] : List Value).toArray 78 (0, 0))
  las : w.heap[lb]? = some (.cells (ints .i64 lasts).toArray 3 (0, 0))
  has : WordsIn w hb U
  len : lasts.length = L
  ne : mb ≠ lb
  out : lb < hb ∨ U ≤ lb
theorem MTab.keep {w w' : World} {mb hb lb U : Nat} {a : Option Addr} {c L : Nat} {lasts : List Nat} {q : Nat → Prop} (h : MTab w mb hb lb U a c L lasts) (k : Keep q w w') (h1 : q mb) (h2 : q lb) (h3 : ∀ j, hb ≤ j → j < U → q j) : MTab w' mb hb lb U a c L lasts :=
  ⟨(k.block _ h1).trans h.blk, (k.block _ h2).trans h.las, h.has.keep k h3, h.len, h.ne, h.out⟩
theorem MTab.lt {w : World} {mb hb lb U : Nat} {a : Option Addr} {c L : Nat} {lasts : List Nat} (h : MTab w mb hb lb U a c L lasts) : mb < w.heap.size ∧ lb < w.heap.size ∧ U ≤ w.heap.size := by
  obtain ⟨_, _, _, _, _, _, _, _, h7⟩ := h.has
  exact ⟨(Array.getElem?_eq_some_iff.1 h.blk).1, (Array.getElem?_eq_some_iff.1 h.las).1, h7⟩
theorem MTab.next {w w' : World} {mb hb lb U : Nat} {a : Option Addr} {c L : Nat} {lasts : List Nat} {q : Nat → Prop} (h : MTab w mb hb lb U a c L lasts) (k : Keep q w w') (hq : ∀ b, b < w.heap.size → q b) : MTab w' mb hb lb U a c L lasts :=
  h.keep k (hq _ h.lt.1) (hq _ h.lt.2.1) (fun _ _ hj => hq _ (Nat.lt_of_lt_of_le hj h.lt.2.2))
theorem MTab.set {w : World} {mb hb lb U : Nat} {a : Option Addr} {c L : Nat} {lasts : List Nat} (h : MTab w mb hb lb U a c L lasts) (i s : Nat) : MTab (w.setCell ⟨lb, i, none⟩ (.int .i64 (s : Int))) mb hb lb U a c L (lasts.set i s) := by
  have kk : Keep (· ≠ lb) w (w.setCell ⟨lb, i, none⟩ (.int .i64 (s : Int))) := (Keep.refl _ _).setCell _ (fun h => h rfl)
  refine ⟨(kk.block _ h.ne).trans h.blk, ?_, h.has.keep kk (fun j h1 h2 => by have := h.out; omega), by rw [List.length_set]; exact h.len, h.ne, h.out⟩
  rw [set_at h.las, ints_set]

/-- the keys that came in. -/
def KeysAt (w : World) (a : Option Addr) (L lb : Nat) (keys : List (List Nat)) : Prop :=
  ∀ i, i < L → ∃ blk off v, a = some ⟨blk, off, none⟩ ∧ (blk < w.heap.size ∧ blk ≠ lb) ∧ w.cell? ⟨blk, off + i, none⟩ = some v ∧ Cells w (fun b => b < w.heap.size ∧ b ≠ lb) v (ints .u8 (keys.getD i []))
theorem KeysAt.next {w w' : World} {a : Option Addr} {L lb : Nat} {keys : List (List Nat)} {q : Nat → Prop} (h : KeysAt w a L lb keys) (k : Keep q w w') (hq : ∀ b, b < w.heap.size → b ≠ lb → q b) : KeysAt w' a L lb keys := by
  intro i hi
  obtain ⟨blk, off, v, rfl, hb, hc, hv⟩ := h i hi
  exact ⟨blk, off, v, rfl, ⟨Nat.lt_of_lt_of_le hb.1 k.size, hb.2⟩, (k.cell (x := ⟨blk, off + i, none⟩) (hq _ hb.1 hb.2)).trans hc, (hv.keep k (fun b hb => hq b hb.1 hb.2)).mono (fun b hb => ⟨Nat.lt_of_lt_of_le hb.1 k.size, hb.2⟩)⟩

def mF (b : List Nat) (tv bv : Value) : List Value := if Wr.isFrame b then rfC (b.getD 0 0 : Nat) (Wr.seqOf b : Nat) tv bv else rfC 0 0 (.slice none 0 0) (.slice none 0 0)
def MOpenSaid (w : World) (mb hb lb U : Nat) (a : Option Addr) (c L : Nat) (keys : List (List Nat)) (lasts b : List Nat) (e : Ending) (w' : World) : Prop :=
  ∃ tv bv, e = .returned (.tuple #[.agg (mF b tv bv).toArray, .int .i64 (openNo keys lasts b : Nat)]) ∧
    (Wr.isFrame b = true → Cells w' (fun k => w.heap.size ≤ k) tv (ints .u8 (openTag b)) ∧ Cells w' (fun k => w.heap.size ≤ k) bv (ints .u8 (b.drop 41))) ∧
    MTab w' mb hb lb U a c L (openLasts keys lasts b) ∧ Keep (fun k => k < w.heap.size ∧ k ≠ lb) w w'

set_option maxRecDepth 100000 in
set_option maxHeartbeats 1000000 in
theorem mopen_bad (mb hb lb U : Nat) (a : Option Addr) (c L : Nat) (keys : List (List Nat)) (lasts : List Nat) (v : Value) (b : List Nat) (w : World) (p : Nat → Prop) (hx : ∀ x ∈ b, x < 256) (hf : Wr.isFrame b = false) (hM : MTab w mb hb lb U a c L lasts) (hv : Cells w p v (ints .u8 b)) :
    Calls Tryd.prog 41 #[.pointer (some ⟨mb, 0, none⟩), v] w (MOpenSaid w mb hb lb U a c L keys lasts b) := by
  have HM := hid hM
  have HV := hid (hv.lt.mono (q := fun b => b < w.heap.size) (fun _ h => h.1))
  have HX := hid hx
  have HFR := hid hf
  have HNO := hid (show openNo keys lasts b = 11 by unfold openNo; rw [if_pos hf])
  have hi := rfr_size 0 0 (.slice none 0 0) (.slice none 0 0)
  have h1 := rfr_one 0 0 none none 0 0 0 0
  clear hM hv hx hf
  go_enter Tryd.func41, Tryd.ntmps41
  go_wp2_with fail
  refine calls_world (fun w1 => Keep (· < w.heap.size) w w1 ∧ w1.heap[w.heap.size]? = some (.cells (rfC 0 0 (.slice none 0 0) (.slice none 0 0)).toArray 83 (0, 0)) ∧ w.heap.size < w1.heap.size) ⟨(Keep.refl _ _).alloc _ (fun _ h => h), heap_alloc_new w _, by simp⟩ ?_
  rintro w1 ⟨k1, R1, z1⟩
  refine (rread_bad v b w1 _ HX.out (HV.out.keep k1 (fun _ h => h)) HFR.out).mono ?_
  rintro e w2 ⟨rfl, k2⟩
  have H2 := hid (And.intro (k1.trans (k2.mono (fun _ h => Nat.lt_trans h z1))) ((k2.block _ z1).trans R1))
  have z2 := Nat.lt_of_lt_of_le z1 k2.size
  clear k1 k2 R1
  go_upto_region 3 with (first | refine wpList_store_row rfl 83 (.tmp 6) (.tmp 11) rfl w2.heap.size (rfC 0 0 (.slice none 0 0) (.slice none 0 0)).toArray rfl rfl 83 _ (heap_alloc_new w2 _) hi rfl h1 ?_)
  refine wp_world (fun w3 => Keep (· < w2.heap.size) w2 w3) (((Keep.refl _ _).alloc _ (fun _ h => h)).setRow _ (by simp)) ?_
  intro w3 k3
  have H3 := hid (And.intro (H2.out.1.trans (k3.mono (fun b h => by omega))) ((k3.block _ z2).trans H2.out.2))
  clear k3 H2
  go_wp2_with (refine wpList_store_row rfl 83 (.tmp 4) (.tmp 15) rfl w.heap.size (rfC 0 0 (.slice none 0 0) (.slice none 0 0)).toArray rfl rfl 83 _ H3.out.2 hi rfl h1 ?_)
  refine bodyPost_ret (v := .tuple #[.agg (rfC 0 0 (.slice none 0 0) (.slice none 0 0)).toArray, .int .i64 11]) (results_cell_row_tmp rfl _ _ w.heap.size 83 _ (0, 0) _ rfl (heap_setRow H3.out.2 _) Tryd.underlying83 rfl hi _ rfl) rfl ?_
  have k4 := H3.out.1.setRow (b := w.heap.size) (rfC 0 0 (.slice none 0 0) (.slice none 0 0)).toArray (Nat.lt_irrefl _)
  refine ⟨.slice none 0 0, .slice none 0 0, ?_, fun h => ?_, ?_, k4.mono (fun k h => h.1)⟩
  · rw [HNO.out]; unfold mF; rw [HFR.out]; rfl
  · rw [HFR.out] at h; cases h
  · have e : openLasts keys lasts b = lasts := by unfold openLasts; rw [HNO.out]; rfl
    rw [e]
    exact HM.out.next k4 (fun j h => h)

/-- while a frame is opened: the result's cell, the frame's block. -/
structure ROp (w0 w : World) (J : Nat) (F : List Value) (tv bv : Value) (tag body : List Nat) : Prop where
  keep : Keep (· < w0.heap.size) w0 w
  res : w.heap[w0.heap.size]? = some (.cells (rfC 0 0 (.slice none 0 0) (.slice none 0 0)).toArray 83 (0, 0))
  blk : w.heap[J]? = some (.cells F.toArray 83 (0, 0))
  tag : Cells w (fun b => w0.heap.size < b ∧ b < J) tv (ints .u8 tag)
  body : Cells w (fun b => w0.heap.size < b ∧ b < J) bv (ints .u8 body)
theorem ROp.next {w0 w w' : World} {J : Nat} {F : List Value} {tv bv : Value} {tag body : List Nat} {q : Nat → Prop} (h : ROp w0 w J F tv bv tag body) (k : Keep q w w') (hq : ∀ b, b < w.heap.size → q b) : ROp w0 w' J F tv bv tag body :=
  ⟨h.keep.trans (k.mono (fun b hb => hq b (Nat.lt_of_lt_of_le hb h.keep.size))), (k.block _ (hq _ (Array.getElem?_eq_some_iff.1 h.res).1)).trans h.res, (k.block _ (hq _ (Array.getElem?_eq_some_iff.1 h.blk).1)).trans h.blk,
    (h.tag.lt.keep k (fun b hb => hq b hb.1)).mono (fun _ hb => hb.2), (h.body.lt.keep k (fun b hb => hq b hb.1)).mono (fun _ hb => hb.2)⟩
theorem rop_err {w w1 : World} {J : Nat} {F : List Value} {tv bv : Value} {tag body : List Nat} (h : ROp w w1 J F tv bv tag body) (cs : Array Value) :
    Keep (· < w.heap.size) w (w1.setRow w.heap.size cs) ∧ Cells (w1.setRow w.heap.size cs) (fun k => w.heap.size ≤ k) tv (ints .u8 tag) ∧ Cells (w1.setRow w.heap.size cs) (fun k => w.heap.size ≤ k) bv (ints .u8 body) := by
  have kk : Keep (· ≠ w.heap.size) w1 (w1.setRow w.heap.size cs) := (Keep.refl _ _).setRow _ (fun h => h rfl)
  exact ⟨h.keep.setRow _ (Nat.lt_irrefl _), (h.tag.keep kk (fun b hb => Nat.ne_of_gt hb.1)).mono (fun b hb => Nat.le_of_lt hb.1), (h.body.keep kk (fun b hb => Nat.ne_of_gt hb.1)).mono (fun b hb => Nat.le_of_lt hb.1)⟩
theorem mop_end {w w2 : World} {mb hb lb U : Nat} {a : Option Addr} {c L : Nat} {keys : List (List Nat)} {lasts lasts' : List Nat} {b : List Nat} {tv bv : Value} {n : Nat} (hfr : Wr.isFrame b = true) (hno : openNo keys lasts b = n)
    (hla : lasts' = if n = 0 then lasts.set (b.getD 0 0) (Wr.seqOf b) else lasts) (ht : MTab w2 mb hb lb U a c L lasts') (htv : Cells w2 (fun k => w.heap.size ≤ k) tv (ints .u8 (openTag b))) (hb' : Cells w2 (fun k => w.heap.size ≤ k) bv (ints .u8 (b.drop 41))) (hk : Keep (fun k => k < w.heap.size ∧ k ≠ lb) w w2) :
    MOpenSaid w mb hb lb U a c L keys lasts b (.returned (.tuple #[.agg (rfC (b.getD 0 0 : Nat) (Wr.seqOf b : Nat) tv bv).toArray, .int .i64 (n : Nat)])) w2 := by
  refine ⟨tv, bv, ?_, fun _ => ⟨htv, hb'⟩, ?_, hk⟩
  · rw [hno]; unfold mF; rw [hfr]; rfl
  · unfold openLasts; rw [hno, ← hla]; exact ht

set_option maxRecDepth 100000 in
set_option maxHeartbeats 4000000 in
theorem mopen_good (mb hb lb U : Nat) (a : Option Addr) (c L : Nat) (keys : List (List Nat)) (lasts : List Nat) (v : Value) (b : List Nat) (w : World) (p : Nat → Prop) (hx : ∀ x ∈ b, x < 256) (hkb : ∀ k ∈ keys, (∀ x ∈ k, x < 256) ∧ k.length ≤ 64) (hkl : keys.length = L) (hLc : L ≤ c ∧ c ≤ 9223372036854775807) (hf : Wr.isFrame b = true) (hM : MTab w mb hb lb U a c L lasts) (hK : KeysAt w a L lb keys) (hv : Cells w p v (ints .u8 b)) :
    Calls Tryd.prog 41 #[.pointer (some ⟨mb, 0, none⟩), v] w (MOpenSaid w mb hb lb U a c L keys lasts b) := by
  have hfi := (Wr.isFrame_iff b).1 hf
  have HM := hid hM
  have HK := hid hK
  have HV := hid (hv.lt.mono (q := fun b => b < w.heap.size) (fun _ h => h.1))
  have HX := hid hx
  have HFR := hid hf
  have HKB := hid hkb
  have HKL := hid hkl
  obtain ⟨x0, hx0⟩ : ∃ x, b.getD 0 0 = x := ⟨_, rfl⟩
  obtain ⟨sq, hsq⟩ : ∃ s, Wr.seqOf b = s := ⟨_, rfl⟩
  obtain ⟨tag, htag⟩ : ∃ t, (b.drop 9).take 32 = t := ⟨_, rfl⟩
  have htb : ∀ x ∈ tag, x < 256 := fun x hx => HX.out x (by rw [← htag] at hx; exact List.mem_of_mem_drop (List.mem_of_mem_take hx))
  have HTB := hid htb
  have HQ := hid (And.intro hx0 (And.intro hsq htag))
  have HNO := hid (show openNo keys lasts b = if L ≤ x0 then 17 else if Sha.tag (keys.getD x0 []) (Wr.signed (x0 : Nat) (sq : Nat) (b.drop 41)) ≠ tag then 12 else if sq ≤ lasts.getD x0 0 then 13 else 0 by
    unfold openNo openTag; rw [HFR.out, hx0, hsq, htag, hkl]; rfl)
  have HBL := hid hfi
  have hL1 := hLc.1
  have hL2 := hLc.2
  clear hx0 hsq htag htb hM hK hv hx hf hkb hkl hfi hLc
  go_enter Tryd.func41, Tryd.ntmps41
  go_wp2_with fail
  refine calls_world (fun w1 => Keep (· < w.heap.size) w w1 ∧ w1.heap[w.heap.size]? = some (.cells (rfC 0 0 (.slice none 0 0) (.slice none 0 0)).toArray 83 (0, 0)) ∧ w.heap.size < w1.heap.size) ⟨(Keep.refl _ _).alloc _ (fun _ h => h), heap_alloc_new w _, by simp⟩ ?_
  rintro w1 ⟨k1, R1, z1⟩
  refine (rread_good v b w1 _ HX.out (HV.out.keep k1 (fun _ h => h)) HFR.out).mono ?_
  rintro e w2 ⟨tv, bv, rfl, ct2, cb2, k2⟩
  rw [HQ.out.1, HQ.out.2.1]
  rw [HQ.out.2.2] at ct2
  obtain ⟨ta, tn, tc, rfl⟩ := cells_form ct2
  obtain ⟨ba, bn, bc, rfl⟩ := cells_form cb2
  have H2 := hid (And.intro (k1.trans (k2.mono (fun b h => Nat.lt_trans h z1))) (And.intro ((k2.block _ z1).trans R1) (And.intro ct2.lt cb2.lt)))
  have z2 := Nat.lt_of_lt_of_le z1 k2.size
  clear k1 k2 R1 ct2 cb2
  have hi := rfr_size (x0 : Int) (sq : Int) (.slice ta tn tc) (.slice ba bn bc)
  have h1 := rfr_one (x0 : Int) (sq : Int) ta ba tn tc bn bc
  go_upto_region 4 with (first | refine wpList_store_row rfl 83 (.tmp 6) (.tmp 11) rfl w2.heap.size (rfC (x0 : Int) (sq : Int) (.slice ta tn tc) (.slice ba bn bc)).toArray rfl rfl 83 _ (heap_alloc_new w2 _) hi rfl h1 ?_)
  refine wp_world (fun w3 => Keep (· < w2.heap.size) w2 w3 ∧ w3.heap[w2.heap.size]? = some (.cells (rfC (x0 : Int) (sq : Int) (.slice ta tn tc) (.slice ba bn bc)).toArray 83 (0, 0)) ∧ w2.heap.size < w3.heap.size) ⟨((Keep.refl _ _).alloc _ (fun _ h => h)).setRow _ (by simp), heap_setRow (heap_alloc_new w2 _) _, by simp⟩ ?_
  rintro w3 ⟨k3, F3, z3⟩
  obtain ⟨J, hJ⟩ : ∃ J, w2.heap.size = J := ⟨_, rfl⟩
  have zJ : w.heap.size < J := by rw [← hJ]; exact z2
  have hop : ROp w w3 J (rfC (x0 : Int) (sq : Int) (.slice ta tn tc) (.slice ba bn bc)) (.slice ta tn tc) (.slice ba bn bc) tag (b.drop 41) := by
    rw [← hJ]
    exact ⟨H2.out.1.trans (k3.mono (fun b h => by omega)), (k3.block _ z2).trans H2.out.2.1, F3, (H2.out.2.2.1.keep k3 (fun b hb => hb.1)).mono (fun b hb => ⟨by omega, hb.1⟩), (H2.out.2.2.2.keep k3 (fun b hb => hb.1)).mono (fun b hb => ⟨by omega, hb.1⟩)⟩
  rw [hJ] at z3 ⊢
  have H3 := hid hop
  clear k3 F3 hJ hop H2 z2
  have M3 := hid (HM.out.next H3.out.keep (fun _ h => h))
  have cm1 : w3.cell? ⟨mb, 1, none⟩ = some (.slice a L c) := cell_at M3.out.blk 1
  have cj0 : w3.cell? ⟨J, 0, none⟩ = some (.int .i64 (x0 : Int)) := cell_at H3.out.blk 0
  by_cases hlt : L ≤ x0
  · have t1 : decide (L ≤ x0) = true := by simpa using hlt
    have HN := hid (show openNo keys lasts b = 17 by rw [HNO.out, if_pos hlt])
    clear hlt
    go_quiet (fail)
    go_wp2_with (first | refine wpList_load_row rfl 83 (.tmp 6) rfl J rfl 83 _ (0, 0) _ H3.out.blk Tryd.underlying83 rfl hi ?_ | refine wpList_store_row rfl 83 (.tmp 4) (.tmp 24) rfl w.heap.size (rfC (x0 : Int) (sq : Int) (.slice ta tn tc) (.slice ba bn bc)).toArray rfl rfl 83 _ H3.out.res hi rfl h1 ?_)
    have H4 := hid (H3.out.next ((Keep.refl (fun _ => True) w3).drewN nq) (fun _ _ => trivial))
    refine bodyPost_ret (v := .tuple #[.agg (rfC (x0 : Int) (sq : Int) (.slice ta tn tc) (.slice ba bn bc)).toArray, .int .i64 17]) (results_cell_row_tmp rfl _ _ w.heap.size 83 _ (0, 0) _ rfl (heap_setRow H4.out.res _) Tryd.underlying83 rfl hi _ rfl) rfl ?_
    have hs := rop_err H4.out (rfC (x0 : Int) (sq : Int) (.slice ta tn tc) (.slice ba bn bc)).toArray
    rw [← HQ.out.2.2] at hs
    have hfin := mop_end (keys := keys) (n := 17) HFR.out HN.out rfl (HM.out.next hs.1 (fun _ h => h)) hs.2.1 hs.2.2 (hs.1.mono (fun k h => h.1))
    rw [HQ.out.1, HQ.out.2.1] at hfin
    exact hfin
  have t1 : decide (L ≤ x0) = false := by simpa using hlt
  have hlt' : x0 < L := by omega
  have l0 : (x0 : Int) < (L : Int) := by omega
  have HNO2 := hid (show openNo keys lasts b = if Sha.tag (keys.getD x0 []) (Wr.signed (x0 : Nat) (sq : Nat) (b.drop 41)) ≠ tag then 12 else if sq ≤ lasts.getD x0 0 then 13 else 0 by rw [HNO.out, if_neg hlt])
  clear hlt
  go_quiet (fail)
  have H4 := hid (H3.out.next ((Keep.refl (fun _ => True) w3).drewN nq) (fun _ _ => trivial))
  obtain ⟨w4, hw4⟩ : ∃ w4, w3.drewN nq = w4 := ⟨_, rfl⟩
  go_upto_region 6 with fail
  have z4 : J < w4.heap.size := by rw [← hw4]; exact z3
  rw [hw4] at H4 ⊢
  clear hw4 H3 z3 M3 cm1 cj0
  have M4 := hid (HM.out.next H4.out.keep (fun _ h => h))
  obtain ⟨blk, off, kv, rfl, hkb, ckv, hkv⟩ := HK.out x0 hlt'
  obtain ⟨kva, kvn, kvc, rfl⟩ := cells_form hkv
  have hmem : keys.getD x0 [] ∈ keys := by
    rw [List.getD_eq_getElem?_getD, List.getElem?_eq_getElem (by rw [HKL.out]; exact hlt')]
    exact List.getElem_mem _
  have HME := hid (HKB.out _ hmem)
  obtain ⟨key, hkey⟩ : ∃ k, keys.getD x0 [] = k := ⟨_, rfl⟩
  rw [hkey] at hkv HME HNO2
  have SS := hid (show ∀ wx : World, Keep (· < w4.heap.size) w4 wx → (wx.cell? ⟨mb, 0, none⟩ = some (.pointer (some ⟨hb, 0, none⟩)) ∧ wx.cell? ⟨mb, 1, none⟩ = some (.slice (some ⟨blk, off, none⟩) L c)) ∧ (wx.cell? ⟨J, 0, none⟩ = some (.int .i64 (x0 : Int)) ∧ wx.cell? ⟨J, 1, none⟩ = some (.int .i64 (sq : Int)) ∧ wx.cell? ⟨J, 2, none⟩ = some (.slice ta tn tc) ∧ wx.cell? ⟨J, 3, none⟩ = some (.slice ba bn bc)) ∧ wx.cell? ⟨blk, off + x0, none⟩ = some (.slice kva kvn kvc) from fun wx kx =>
    ⟨⟨(kx.cell (x := ⟨mb, 0, none⟩) M4.out.lt.1).trans (cell_at M4.out.blk 0), (kx.cell (x := ⟨mb, 1, none⟩) M4.out.lt.1).trans (cell_at M4.out.blk 1)⟩, ⟨(kx.cell (x := ⟨J, 0, none⟩) z4).trans (cell_at H4.out.blk 0), (kx.cell (x := ⟨J, 1, none⟩) z4).trans (cell_at H4.out.blk 1), (kx.cell (x := ⟨J, 2, none⟩) z4).trans (cell_at H4.out.blk 2), (kx.cell (x := ⟨J, 3, none⟩) z4).trans (cell_at H4.out.blk 3)⟩, (kx.cell (x := ⟨blk, off + x0, none⟩) (Nat.lt_of_lt_of_le hkb.1 H4.out.keep.size)).trans ((H4.out.keep.cell (x := ⟨blk, off + x0, none⟩) hkb.1).trans ckv)⟩)
  have HKV := hid (hkv.mono (q := fun b => b < w.heap.size) (fun b h => h.1))
  clear hkb ckv hkv hmem hkey
  refine wp_region_plan [true, true, true, true, true, true, true, true, true, true, true, true, true, true, true, true, true, true, false, false, false, true, true, true, true] (.free 0 (.free 1 (.free 2 (.free 3 (.free 4 (.free 5 (.free 6 (.free 7 (.free 8 (.free 9 (.free 10 (.free 11 (.free 12 (.free 13 (.free 14 (.free 15 (.free 16 (.free 17 (.free 21 (.free 22 (.free 23 (.one 18 (.one 19 (.one 20 (.free 24 (.done))))))))))))))))))))))))))
    (fun wx => Keep (· < w4.heap.size) w4 wx) (by kernel_rfl) (by kernel_rfl) (Keep.refl _ _).drew ?_
  refine plan_free rfl rfl (fun K hK => ?_); go_simp; refine hK _ ?_; clear hK K
  refine plan_free rfl rfl (fun K hK => ?_); go_simp; refine hK _ ?_; clear hK K
  refine plan_free rfl rfl (fun K hK => ?_); go_simp; refine hK _ ?_; clear hK K
  refine plan_held (.pointer (some ⟨hb, 0, none⟩)) rfl rfl (fun w0 h0 => by obtain ⟨⟨q0, q1⟩, ⟨q2, q3, q4, q5⟩, q6⟩ := SS.out w0 h0; clear h0; go_simp) (fun K hK => ?_); go_simp; refine hK _ ?_; clear hK K
  refine plan_free rfl rfl (fun K hK => ?_); go_simp; refine hK _ ?_; clear hK K
  refine plan_free rfl rfl (fun K hK => ?_); go_simp; refine hK _ ?_; clear hK K
  refine plan_free rfl rfl (fun K hK => ?_); go_simp; refine hK _ ?_; clear hK K
  refine plan_held (.slice (some ⟨blk, off, none⟩) L c) rfl rfl (fun w0 h0 => by obtain ⟨⟨q0, q1⟩, ⟨q2, q3, q4, q5⟩, q6⟩ := SS.out w0 h0; clear h0; go_simp) (fun K hK => ?_); go_simp; refine hK _ ?_; clear hK K
  refine plan_free rfl rfl (fun K hK => ?_); go_simp; refine hK _ ?_; clear hK K
  refine plan_held (.int .i64 (x0 : Int)) rfl rfl (fun w0 h0 => by obtain ⟨⟨q0, q1⟩, ⟨q2, q3, q4, q5⟩, q6⟩ := SS.out w0 h0; clear h0; go_simp) (fun K hK => ?_); go_simp; refine hK _ ?_; clear hK K
  refine plan_free rfl rfl (fun K hK => ?_); go_simp; refine hK _ ?_; clear hK K
  refine plan_held (.slice kva kvn kvc) rfl rfl (fun w0 h0 => by obtain ⟨⟨q0, q1⟩, ⟨q2, q3, q4, q5⟩, q6⟩ := SS.out w0 h0; clear h0; go_simp) (fun K hK => ?_); go_simp; refine hK _ ?_; clear hK K
  refine plan_free rfl rfl (fun K hK => ?_); go_simp; refine hK _ ?_; clear hK K
  refine plan_held (.int .i64 (x0 : Int)) rfl rfl (fun w0 h0 => by obtain ⟨⟨q0, q1⟩, ⟨q2, q3, q4, q5⟩, q6⟩ := SS.out w0 h0; clear h0; go_simp) (fun K hK => ?_); go_simp; refine hK _ ?_; clear hK K
  refine plan_free rfl rfl (fun K hK => ?_); go_simp; refine hK _ ?_; clear hK K
  refine plan_held (.int .i64 (sq : Int)) rfl rfl (fun w0 h0 => by obtain ⟨⟨q0, q1⟩, ⟨q2, q3, q4, q5⟩, q6⟩ := SS.out w0 h0; clear h0; go_simp) (fun K hK => ?_); go_simp; refine hK _ ?_; clear hK K
  refine plan_free rfl rfl (fun K hK => ?_); go_simp; refine hK _ ?_; clear hK K
  refine plan_held (.slice ba bn bc) rfl rfl (fun w0 h0 => by obtain ⟨⟨q0, q1⟩, ⟨q2, q3, q4, q5⟩, q6⟩ := SS.out w0 h0; clear h0; go_simp) (fun K hK => ?_); go_simp; refine hK _ ?_; clear hK K
  refine plan_free rfl rfl (fun K hK => ?_); go_simp; refine hK _ ?_; clear hK K
  refine plan_held (.slice ta tn tc) rfl rfl (fun w0 h0 => by obtain ⟨⟨q0, q1⟩, ⟨q2, q3, q4, q5⟩, q6⟩ := SS.out w0 h0; clear h0; go_simp) (fun K hK => ?_); go_simp; refine hK _ ?_; clear hK K
  refine plan_held (.string (bstr tag)) rfl rfl (fun w0 h0 => by have cv := conv_bytes21 w0 (H4.out.tag.lt.keep h0 (fun b h => h.1)); clear h0; go_simp) (fun K hK => ?_); go_simp; refine hK _ ?_; clear hK K
  have k4 : Keep (· < w4.heap.size) w4 w4.drew := (Keep.refl _ _).drew
  refine plan_one rfl rfl (fun K hK => ?_); go_simp
  refine (rsigned_walk (x0 : Int) (sq : Int) _ (b.drop 41) w4.drew _ (by rw [List.length_drop]; have := HBL.out; omega) (H4.out.body.lt.keep k4 (fun b h => h.1))).mono ?_
  rintro e w5 ⟨sv, rfl, f5, k5, z5⟩
  have k45 : Keep (· < w4.heap.size) w4 w5 := k4.trans k5
  refine hK _ _ ⟨k45, ?_⟩
  clear hK K
  have K5 := hid k45
  have F5 := hid f5
  clear k4 k5 k45 f5 z5
  refine plan_one rfl rfl (fun K hK => ?_); go_simp
  refine (reftag_walk hb _ _ key (Wr.signed (x0 : Int) (sq : Int) (b.drop 41)) w5 _ _ (by have := HME.out.2; omega) (by rw [Wr.signed_length, List.length_drop]; have := HBL.out; omega) HME.out.1 (Wr.signed_lt _ _ _ (fun x hx => HX.out x (List.mem_of_mem_drop hx))) (M4.out.next K5.out (fun _ h => h)).has.at_ (HKV.out.keep (H4.out.keep.trans (K5.out.mono (fun b h => Nat.lt_of_lt_of_le h H4.out.keep.size))) (fun _ h => h)) F5.out.cells).mono ?_
  rintro e w6 ⟨gv, rfl, k6, cg⟩
  have z5 := K5.out.size
  have k46 : Keep (· < w4.heap.size) w4 w6 := K5.out.trans (k6.mono (fun b h => Nat.lt_of_lt_of_le h z5))
  refine hK _ _ ⟨k46, ?_⟩
  clear hK K
  have K6 := hid k46
  obtain ⟨ga, gn, gc, rfl⟩ := cells_form cg
  obtain ⟨D, hD⟩ : ∃ D, Sha.tag key (Wr.signed (x0 : Int) (sq : Int) (b.drop 41)) = D := ⟨_, rfl⟩
  have hDb : ∀ x ∈ D, x < 256 := by rw [← hD]; exact tag_lt
  rw [hD] at cg HNO2
  have cv := conv_bytes21 w6 cg
  have eb := bstr_beq hDb HTB.out
  obtain ⟨ok, hok⟩ : ∃ ok, decide (D = tag) = ok := ⟨_, rfl⟩
  rw [hok] at eb
  have en : ((bstr D).toList != (bstr tag).toList) = !ok := by rw [bne, eb]
  have HOK := hid hok
  clear cg k6 k46 z5 F5 hDb hD hok
  refine plan_one rfl rfl (fun K hK => ?_); go_simp
  refine hK _ _ ⟨K6.out, ?_⟩
  clear hK K cv
  cases ok with
  | false =>
    have HN := hid (show openNo keys lasts b = 12 by
      have hne : D ≠ tag := by simpa using HOK.out
      rw [HNO2.out, if_pos hne])
    refine plan_free rfl rfl (fun K hK => ?_); go_simp; refine hK _ ?_; clear hK K
    unfold runs
    have H6 := hid (H4.out.next K6.out (fun _ h => h))
    clear eb en HOK HNO2 HNO
    go_wp2_with (first | refine wpList_load_row rfl 83 (.tmp 6) rfl J rfl 83 _ (0, 0) _ H6.out.blk Tryd.underlying83 rfl hi ?_ | refine wpList_store_row rfl 83 (.tmp 4) (.tmp 50) rfl w.heap.size (rfC (x0 : Int) (sq : Int) (.slice ta tn tc) (.slice ba bn bc)).toArray rfl rfl 83 _ H6.out.res hi rfl h1 ?_)
    refine bodyPost_ret (v := .tuple #[.agg (rfC (x0 : Int) (sq : Int) (.slice ta tn tc) (.slice ba bn bc)).toArray, .int .i64 12]) (results_cell_row_tmp rfl _ _ w.heap.size 83 _ (0, 0) _ rfl (heap_setRow H6.out.res _) Tryd.underlying83 rfl hi _ rfl) rfl ?_
    have hs := rop_err H6.out (rfC (x0 : Int) (sq : Int) (.slice ta tn tc) (.slice ba bn bc)).toArray
    rw [← HQ.out.2.2] at hs
    have hfin := mop_end (keys := keys) (n := 12) HFR.out HN.out rfl (HM.out.next hs.1 (fun _ h => h)) hs.2.1 hs.2.2 (hs.1.mono (fun k h => h.1))
    rw [HQ.out.1, HQ.out.2.1] at hfin
    exact hfin
  | true =>
    have HN0 := hid (show openNo keys lasts b = if sq ≤ lasts.getD x0 0 then 13 else 0 by
      have hne : D = tag := by simpa using HOK.out
      rw [HNO2.out, if_neg (by simp [hne])])
    refine plan_free rfl rfl (fun K hK => ?_); go_simp; refine hK _ ?_; clear hK K
    unfold runs
    have H6 := hid (H4.out.next K6.out (fun _ h => h))
    have M6 := hid (M4.out.next K6.out (fun _ h => h))
    obtain ⟨la, hla⟩ : ∃ la, lasts.getD x0 0 = la := ⟨_, rfl⟩
    rw [hla] at HN0
    have cj0 : w6.cell? ⟨J, 0, none⟩ = some (.int .i64 (x0 : Int)) := cell_at H6.out.blk 0
    have cj1 : w6.cell? ⟨J, 1, none⟩ = some (.int .i64 (sq : Int)) := cell_at H6.out.blk 1
    have cm2 : w6.cell? ⟨mb, 2, none⟩ = some (.slice (some ⟨lb, 0, none⟩) L L) := cell_at M6.out.blk 2
    have cl : w6.cell? ⟨lb, x0, none⟩ = some (.int .i64 (la : Int)) := by
      rw [cell_at M6.out.las, ints_get _ _ _ (by rw [M6.out.len]; exact hlt'), hla]
    have z6 := Nat.lt_of_lt_of_le z4 K6.out.size
    clear eb en HOK HNO2 HNO hla
    go_upto_region 8 with fail
    by_cases hsl : sq ≤ la
    · have t2 : decide (sq ≤ la) = true := by simpa using hsl
      have HN := hid (show openNo keys lasts b = 13 by rw [HN0.out, if_pos hsl])
      clear hsl
      go_quiet (fail)
      have H7 := hid (H6.out.next ((Keep.refl (fun _ => True) w6).drewN nq) (fun _ _ => trivial))
      go_wp2_with (first | refine wpList_load_row rfl 83 (.tmp 6) rfl J rfl 83 _ (0, 0) _ H7.out.blk Tryd.underlying83 rfl hi ?_ | refine wpList_store_row rfl 83 (.tmp 4) (.tmp 62) rfl w.heap.size (rfC (x0 : Int) (sq : Int) (.slice ta tn tc) (.slice ba bn bc)).toArray rfl rfl 83 _ H7.out.res hi rfl h1 ?_)
      refine bodyPost_ret (v := .tuple #[.agg (rfC (x0 : Int) (sq : Int) (.slice ta tn tc) (.slice ba bn bc)).toArray, .int .i64 13]) (results_cell_row_tmp rfl _ _ w.heap.size 83 _ (0, 0) _ rfl (heap_setRow H7.out.res _) Tryd.underlying83 rfl hi _ rfl) rfl ?_
      have hs := rop_err H7.out (rfC (x0 : Int) (sq : Int) (.slice ta tn tc) (.slice ba bn bc)).toArray
      rw [← HQ.out.2.2] at hs
      have hfin := mop_end (keys := keys) (n := 13) HFR.out HN.out rfl (HM.out.next hs.1 (fun _ h => h)) hs.2.1 hs.2.2 (hs.1.mono (fun k h => h.1))
      rw [HQ.out.1, HQ.out.2.1] at hfin
      exact hfin
    · have t2 : decide (sq ≤ la) = false := by simpa using hsl
      have HN := hid (show openNo keys lasts b = 0 by rw [HN0.out, if_neg hsl])
      clear hsl
      go_quiet (fail)
      have H7 := hid (H6.out.next ((Keep.refl (fun _ => True) w6).drewN nq) (fun _ _ => trivial))
      have M7 := hid (M6.out.next ((Keep.refl (fun _ => True) w6).drewN nq) (fun _ _ => trivial))
      go_upto_region 10 with fail
      obtain ⟨w7, hw7⟩ : ∃ w7, w6.drewN nq = w7 := ⟨_, rfl⟩
      have z7 : J < w7.heap.size := by rw [← hw7]; exact z6
      rw [hw7] at H7 M7 ⊢
      clear hw7 H6 M6 cj0 cj1 cm2 cl
      have S7 := hid (show ∀ wx : World, Keep (· < w7.heap.size) w7 wx → wx.cell? ⟨J, 0, none⟩ = some (.int .i64 (x0 : Int)) ∧ wx.cell? ⟨J, 1, none⟩ = some (.int .i64 (sq : Int)) ∧ wx.cell? ⟨mb, 2, none⟩ = some (.slice (some ⟨lb, 0, none⟩) L L) from fun wx kx =>
        ⟨(kx.cell (x := ⟨J, 0, none⟩) z7).trans (cell_at H7.out.blk 0), (kx.cell (x := ⟨J, 1, none⟩) z7).trans (cell_at H7.out.blk 1), (kx.cell (x := ⟨mb, 2, none⟩) M7.out.lt.1).trans (cell_at M7.out.blk 2)⟩)
      refine wp_region_plan [true, true, true, true, true, true, true, true, true, false] (.free 0 (.free 1 (.free 2 (.free 3 (.free 4 (.free 5 (.free 6 (.free 7 (.free 8 (.last 9))))))))))
        (fun wx => Keep (· < w7.heap.size) w7 wx) (by kernel_rfl) (by kernel_rfl) (Keep.refl _ _).drew ?_
      refine plan_free rfl rfl (fun K hK => ?_); go_simp; refine hK _ ?_; clear hK K
      refine plan_free rfl rfl (fun K hK => ?_); go_simp; refine hK _ ?_; clear hK K
      refine plan_free rfl rfl (fun K hK => ?_); go_simp; refine hK _ ?_; clear hK K
      refine plan_held (.slice (some ⟨lb, 0, none⟩) L L) rfl rfl (fun w0 h0 => by obtain ⟨q0, q1, q2⟩ := S7.out w0 h0; clear h0; go_simp) (fun K hK => ?_); go_simp; refine hK _ ?_; clear hK K
      refine plan_free rfl rfl (fun K hK => ?_); go_simp; refine hK _ ?_; clear hK K
      refine plan_held (.int .i64 (x0 : Int)) rfl rfl (fun w0 h0 => by obtain ⟨q0, q1, q2⟩ := S7.out w0 h0; clear h0; go_simp) (fun K hK => ?_); go_simp; refine hK _ ?_; clear hK K
      refine plan_free rfl rfl (fun K hK => ?_); go_simp; refine hK _ ?_; clear hK K
      refine plan_held (.int .i64 (sq : Int)) rfl rfl (fun w0 h0 => by obtain ⟨q0, q1, q2⟩ := S7.out w0 h0; clear h0; go_simp) (fun K hK => ?_); go_simp; refine hK _ ?_; clear hK K
      refine plan_free rfl rfl (fun K hK => ?_); go_simp; refine hK _ ?_; clear hK K
      have fl : w7.frozen? ⟨lb, x0, none⟩ = false := frozen_at M7.out.las x0
      have cl : w7.cell? ⟨lb, x0, none⟩ = some (.int .i64 (lasts.getD x0 0 : Nat)) := by
        rw [cell_at M7.out.las, ints_get _ _ _ (by rw [M7.out.len]; exact hlt')]
      refine plan_last rfl rfl (fun K hK => ?_); go_simp; refine hK _ _ ?_; clear hK K
      have ne1 : w.heap.size ≠ lb := Nat.ne_of_gt HM.out.lt.2.1
      have neJ : J ≠ lb := Nat.ne_of_gt (Nat.lt_trans HM.out.lt.2.1 zJ)
      go_upto_region 11 with fail
      refine wp_world (fun w8 => Keep (fun b => b ≠ lb) w7 w8 ∧ MTab w8 mb hb lb U (some ⟨blk, off, none⟩) c L (lasts.set x0 sq)) ⟨((Keep.refl _ _).setCell _ (fun h => h rfl)).drew, (M7.out.set x0 sq).next ((Keep.refl (fun _ => True) _).drew) (fun _ _ => trivial)⟩ ?_
      rintro w8 ⟨k8, m8⟩
      have H8 := hid (And.intro ((k8.block _ ne1).trans H7.out.res) (And.intro ((k8.block _ neJ).trans H7.out.blk) (And.intro m8 (And.intro (H7.out.tag.keep k8 (fun b hb => by have := HM.out.lt.2.1; omega)) (And.intro (H7.out.body.keep k8 (fun b hb => by have := HM.out.lt.2.1; omega)) (show Keep (fun k => k < w.heap.size ∧ k ≠ lb) w w8 from (H7.out.keep.mono (fun b (h : b < w.heap.size ∧ b ≠ lb) => h.1)).trans (k8.mono (fun b h => h.2))))))))
      clear k8 m8 cl fl S7 H7 M7
      go_wp2_with (first | refine wpList_load_row rfl 83 (.tmp 6) rfl J rfl 83 _ (0, 0) _ H8.out.2.1 Tryd.underlying83 rfl hi ?_ | refine wpList_store_row rfl 83 (.tmp 4) (.tmp 72) rfl w.heap.size (rfC (x0 : Int) (sq : Int) (.slice ta tn tc) (.slice ba bn bc)).toArray rfl rfl 83 _ H8.out.1 hi rfl h1 ?_)
      refine bodyPost_ret (v := .tuple #[.agg (rfC (x0 : Int) (sq : Int) (.slice ta tn tc) (.slice ba bn bc)).toArray, .int .i64 0]) (results_cell_row_tmp rfl _ _ w.heap.size 83 _ (0, 0) _ rfl (heap_setRow H8.out.1 _) Tryd.underlying83 rfl hi _ rfl) rfl ?_
      have k9 : Keep (fun b => b ≠ w.heap.size) w8 (w8.setRow w.heap.size (rfC (x0 : Int) (sq : Int) (.slice ta tn tc) (.slice ba bn bc)).toArray) := (Keep.refl _ _).setRow _ (fun h => h rfl)
      have m9 := H8.out.2.2.1.keep k9 (Nat.ne_of_lt HM.out.lt.1) (Nat.ne_of_lt HM.out.lt.2.1) (fun j _ hj => Nat.ne_of_lt (Nat.lt_of_lt_of_le hj HM.out.lt.2.2))
      have ct9 := (H8.out.2.2.2.1.keep k9 (fun b hb => Nat.ne_of_gt hb.1)).mono (q := fun b => w.heap.size ≤ b) (fun b hb => Nat.le_of_lt hb.1)
      have cb9 := (H8.out.2.2.2.2.1.keep k9 (fun b hb => Nat.ne_of_gt hb.1)).mono (q := fun b => w.heap.size ≤ b) (fun b hb => Nat.le_of_lt hb.1)
      rw [← HQ.out.2.2] at ct9
      have hfin := mop_end (keys := keys) (n := 0) HFR.out HN.out (lasts' := lasts.set x0 sq) (by rw [if_pos rfl, HQ.out.1, HQ.out.2.1]) m9 ct9 cb9 (H8.out.2.2.2.2.2.trans (k9.mono (fun b h => Nat.ne_of_lt h.1)))
      rw [HQ.out.1, HQ.out.2.1] at hfin
      exact hfin
end Go.Proofs.YtnpneippahdigaaDoor
