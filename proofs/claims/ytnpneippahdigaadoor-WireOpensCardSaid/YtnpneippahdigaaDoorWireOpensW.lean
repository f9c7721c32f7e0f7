/-
  Step by step: the statement 'WireOpens'.
-/
import Derived.Test.YtnpneippahdigaaDoorIn8
import Derived.Test.YtnpneippahdigaaDoorWireL
import Derived.Test.YtnpneippahdigaaDoorRefNew
namespace Go.Proofs.YtnpneippahdigaaDoor
open Go.RowKit Go.Proofs.Mem Go.Proofs.Txt

/-- may the keys be a table's, as far as they have been looked at? -/
def okI (keys : List (List Nat)) (i : Nat) : Bool := decide (1 ≤ keys.length) && decide (keys.length ≤ 8) && (keys.take i).all (fun k => decide (1 ≤ k.length) && decide (k.length ≤ 64))
theorem okI_all (keys : List (List Nat)) : okI keys keys.length = okKeys keys := by unfold okI okKeys; rw [List.take_of_length_le (Nat.le_refl _)]
theorem okI_succ (keys : List (List Nat)) (i : Nat) (h : i < keys.length) : okI keys (i + 1) = (okI keys i && (decide (1 ≤ (keys.getD i []).length) && decide ((keys.getD i []).length ≤ 64))) := by
  have e : keys.getD i [] = keys[i] := by rw [List.getD_eq_getElem?_getD, List.getElem?_eq_getElem h]; rfl
  unfold okI
  rw [List.take_succ_eq_append_getElem h, List.all_append, e]
  simp [Bool.and_assoc]
theorem okI_of (keys : List (List Nat)) (h : okKeys keys = true) (i : Nat) : okI keys i = true := by
  obtain ⟨h1, h2, h3⟩ := (okKeys_iff keys).1 h
  simp only [okI, Bool.and_eq_true, decide_eq_true_eq, List.all_eq_true]
  exact ⟨⟨h1, h2⟩, fun k hk => h3 k (List.mem_of_mem_take hk)⟩

theorem lay_mtab : structLay Tryd.prog 78 = some ([.pointer none, .slice none 0 0, .slice none 0 0], [(0, 1), (1, 1), (2, 1)]) := by kernel_rfl
theorem build_mtab (b : Nat) (a : Option Addr) (l c lb : Nat) (w : World) : (Instr.build 78 #[(0, .pointer (some ⟨b, 0, none⟩)), (1, .slice a l c), (2, .slice (some ⟨lb, 0, none⟩) l l)]).run Tryd.prog w = .ok (.agg ([.pointer (some ⟨b, 0, none⟩), .slice a l c, .slice (some ⟨lb, 0, none⟩) l l] : List Value).toArray) w := by
  refine run_build w _ _ _ ?_
  rw [built_struct lay_mtab]
  rfl

theorem wf64 {n : Int} (h : (Lit.int .i64 n).wf = true) : -9223372036854775808 ≤ n ∧ n ≤ 9223372036854775807 := by
  simp [Lit.wf, IntKind.min, IntKind.max, IntKind.signed, IntKind.bits] at h
  omega
theorem or_next {w w' : World} {p : Nat → Prop} {v : Value} {cs ds : List Value} {e : Prop} (h : Cells w p v cs ∨ (Cells w p v ds ∧ e)) (k : Keep (· < w.heap.size) w w') : Cells w' (fun _ => True) v cs ∨ (Cells w' (fun _ => True) v ds ∧ e) := by
  rcases h with h | ⟨h, he⟩
  · exact .inl ((h.lt.keep k (fun b hb => hb.1)).mono (fun _ _ => trivial))
  · exact .inr ⟨(h.lt.keep k (fun b hb => hb.1)).mono (fun _ _ => trivial), he⟩
theorem openNo_le (keys : List (List Nat)) (lasts b : List Nat) : openNo keys lasts b ≤ 17 := by
  unfold openNo
  repeat' split
  all_goals omega
/-- what both tables hand back, in one form. -/
theorem opened (b : List Nat) : ∃ (t s : Int) (tag body : List Nat), tag.length = 32 ∧
    (∀ (fv : Value) (w : World) (p : Nat → Prop), (Wr.isFrame b = true → Cells w p fv (ints .u8 (b.drop 41))) → ∃ a n c, openF b fv = frC t s tag (.slice a n c) ∧ Cells w p (.slice a n c) (ints .u8 body)) ∧
    (∀ (tv bv : Value) (w : World) (p : Nat → Prop), (Wr.isFrame b = true → Cells w p tv (ints .u8 (openTag b)) ∧ Cells w p bv (ints .u8 (b.drop 41))) → ∃ a n c a' n' c', mF b tv bv = rfC t s (.slice a n c) (.slice a' n' c') ∧
      (Cells w p (.slice a n c) (ints .u8 tag) ∨ (Cells w p (.slice a n c) (ints .u8 []) ∧ tag = zeros32)) ∧ Cells w p (.slice a' n' c') (ints .u8 body)) := by
  by_cases hf : Wr.isFrame b = true
  · have hl := ((Wr.isFrame_iff b).1 hf).1
    refine ⟨(b.getD 0 0 : Nat), (Wr.seqOf b : Nat), openTag b, b.drop 41, by unfold openTag; rw [List.length_take, List.length_drop]; omega, fun fv w p h => ?_, fun tv bv w p h => ?_⟩
    · have h' := h hf
      obtain ⟨a, n, c, rfl⟩ := cells_form h'
      exact ⟨a, n, c, by unfold openF; rw [if_pos hf], h'⟩
    · obtain ⟨h1, h2⟩ := h hf
      obtain ⟨a, n, c, rfl⟩ := cells_form h1
      obtain ⟨a', n', c', rfl⟩ := cells_form h2
      exact ⟨a, n, c, a', n', c', by unfold mF; rw [if_pos hf], .inl h1, h2⟩
  · refine ⟨0, 0, zeros32, [], zeros32_length, fun fv w p _ => ⟨none, 0, 0, by unfold openF; rw [if_neg hf], Cells.nil _ _⟩, fun tv bv w p _ => ⟨none, 0, 0, none, 0, 0, by unfold mF; rw [if_neg hf], .inr ⟨Cells.nil _ _, rfl⟩, Cells.nil _ _⟩⟩
theorem topen_any (tb B U g : Nat) (keys : List (List Nat)) (lasts : List Nat) (xs : List Addr) (v : Value) (b : List Nat) (w : World) (p : Nat → Prop) (hx : ∀ x ∈ b, x < 256) (hkb : ∀ k ∈ keys, (∀ x ∈ k, x < 256) ∧ k.length ≤ 1099511627776) (hT : TurnsAt w) (he : ErrsAt w errGs xs) (ht : TableAt w B U tb g keys lasts) (hv : Cells w p v (ints .u8 b)) :
    Calls Tryd.prog 37 #[.pointer (some ⟨tb, 0, none⟩), v] w (OpenSaid w B U tb g keys lasts xs b) := by
  cases hf : Wr.isFrame b with
  | true => exact open_good tb B U g keys lasts xs v b w p hx hkb hf hT he ht hv
  | false => exact open_bad tb B U g keys lasts xs v b w p hx hf he ht hv
theorem mopen_any (mb hb lb U : Nat) (a : Option Addr) (c L : Nat) (keys : List (List Nat)) (lasts : List Nat) (v : Value) (b : List Nat) (w : World) (p : Nat → Prop) (hx : ∀ x ∈ b, x < 256) (hkb : ∀ k ∈ keys, (∀ x ∈ k, x < 256) ∧ k.length ≤ 64) (hkl : keys.length = L) (hLc : L ≤ c ∧ c ≤ 9223372036854775807) (hM : MTab w mb hb lb U a c L lasts) (hK : KeysAt w a L lb keys) (hv : Cells w p v (ints .u8 b)) :
    Calls Tryd.prog 41 #[.pointer (some ⟨mb, 0, none⟩), v] w (MOpenSaid w mb hb lb U a c L keys lasts b) := by
  cases hf : Wr.isFrame b with
  | true => exact mopen_good mb hb lb U a c L keys lasts v b w p hx hkb hkl hLc hf hM hK hv
  | false => exact mopen_bad mb hb lb U a c L keys lasts v b w p hx hf hM hv
theorem neg_rem (sp : Int) (h : sp < 0) : ∃ r : Nat, sp.tmod 60 = -(r : Int) ∧ r < 60 := by
  refine ⟨((-sp) % 60).toNat, ?_, by omega⟩
  have : sp.tmod 60 = -((-sp) % 60) := by
    have e : sp = -(-sp) := by omega
    rw [e, Int.neg_tmod, Int.tmod_eq_emod_of_nonneg (by omega)]
    simp
  rw [this]; omega
theorem send_size (q : SendIn) : (Tryd.prog.info? 80).map (·.size) = some q.cells.length := by
  show _ = some 5
  kernel_rfl
theorem send_one (t k q : Int) (a : Option Addr) (n c : Nat) (sp : Int) : (sdC t k q (.slice a n c) sp).toArray.all (·.oneCell') = true := by simp [sdC, Value.oneCell']

set_option maxRecDepth 100000 in
set_option maxHeartbeats 8000000 in
theorem wireOpens_walk (uv sv : Value) (vs : List Value) (keys : List (List Nat)) (N : Nat) (S : Nat → SendIn) (xs : List Addr) (w : World) (hT : TurnsAt w) (he : ErrsAt w errGs xs) (hd : xs.Nodup) (hrows : IsRows w uv vs keys) (hs : IsSends w sv N S) :
    Calls Tryd.prog 9 #[uv, sv] w fun e w' => e = .returned (.bool true) ∧ Keep (· < w.heap.size) w w' := by
  have HT := hid hT
  have HE := hid he
  have HD := hid hd
  obtain ⟨hu, hlen, hrow⟩ := hrows
  have HU := hid (hu.lt.mono (q := fun b => b < w.heap.size) (fun _ h => h.1))
  have HV := hid (show Rws w (fun b => b < w.heap.size) vs keys from ⟨hlen, fun i hi => (hrow i hi).2.lt.mono (fun _ h => h.1)⟩)
  have HKX := hid (show ∀ k ∈ keys, ∀ x ∈ k, x < 256 from fun k hk => by
    obtain ⟨i, hi, rfl⟩ := List.mem_iff_getElem.1 hk
    have := (hrow i (by omega)).1
    rwa [List.getD_eq_getElem?_getD, List.getElem?_eq_getElem hi] at this)
  obtain ⟨a1, n1, c1, rfl, e1, m1, q1, -⟩ := HU.out
  subst e1
  have q1' : c1 ≤ 9223372036854775807 := by simpa [maxLen] using q1
  obtain ⟨L, hL⟩ : ∃ L, vs.length = L := ⟨_, rfl⟩
  have HKL := hid (show keys.length = L from hlen.symm.trans hL)
  have KEYS := hid (show ∀ (lb : Nat) (wx : World), w.heap.size ≤ lb → Keep (· < w.heap.size) w wx → KeysAt wx a1 L lb keys from fun lb wx hlb kx i hi => by
    obtain ⟨a, l, c, e, h1, h2, h3, h4⟩ := HU.out
    injection e with e2 e3 e4
    obtain ⟨blk, off, ha, hb, hc⟩ := h4 (by omega)
    have hz := kx.size
    refine ⟨blk, off, vs.getD i undef, e2.trans ha, ⟨by omega, by omega⟩, ?_, ((HV.out.2 i (by omega)).keep kx (fun _ h => h)).mono (fun b hb => ⟨by omega, by omega⟩)⟩
    rw [kx.cell (x := ⟨blk, off + i, none⟩) hb, hc i (by omega), List.getD_eq_getElem?_getD, List.getElem?_eq_getElem (by omega)]; rfl)
  obtain ⟨sa, sc, rfl, hsl, hsm, hse⟩ := hs
  have hsc : sc ≤ 9223372036854775807 := by simpa [maxLen] using hsm
  have HSE := hid hse
  rw [hL] at m1 ⊢
  have HUL := hid (show Cells w (fun b => b < w.heap.size) (.slice a1 L c1) vs by have := HU.out; rwa [hL] at this)
  clear hT he hd hu hlen hrow hL q1 hsm hse HU
  go_enter Tryd.func9, Tryd.ntmps9
  go_wp2_with fail
  refine (alive21_walk w HT.out).mono ?_
  rintro e w1 ⟨rfl, k1⟩
  have H1 := hid k1
  clear k1
  by_cases c50 : 50 < L
  · have t1 : decide ((50 : Int) < (L : Int)) = true := by simp; omega
    go_wp2_with fail
    go_ret
    exact ⟨rfl, H1.out⟩
  have t1 : decide ((50 : Int) < (L : Int)) = false := by simp; omega
  have hL50 : L ≤ 50 := by omega
  clear c50
  go_wp2_with fail
  clear t1
  have e2 := errs_at (HE.out.keep H1.out (fun _ h => h)) 0 _ rfl
  refine (wnew_any _ vs keys (errV xs 1) w1 _ _ (HUL.out.keep H1.out (fun _ h => h)) (HV.out.keep H1.out (fun _ h => h)) e2.1 e2.2).mono ?_
  rintro e w2 ⟨h2, k2⟩
  have kw2 := H1.out.trans (k2.mono (fun b h => Nat.lt_of_lt_of_le h H1.out.size))
  have K2 := hid kw2
  have Z12 := hid (And.intro H1.out.size k2.size)
  clear k2 kw2 e2
  rcases h2 with ⟨hok, tb, g, rfl, ht⟩ | ⟨hok, rfl⟩
  · have HOK := hid hok
    obtain ⟨hok1, hok2, hok3⟩ := (okKeys_iff keys).1 hok
    rw [HKL.out] at hok1 hok2
    have HK3 := hid hok3
    obtain ⟨B, hB⟩ : ∃ B, w1.heap.size = B := ⟨_, rfl⟩
    obtain ⟨U, hU⟩ : ∃ U, w2.heap.size = U := ⟨_, rfl⟩
    have zB : w.heap.size ≤ B := by have := Z12.out; omega
    rw [hB, hU] at ht
    have HT2 := hid ht
    have HUe := hid hU
    clear hok hok3 ht hB hU
    have t1 : decide ((1 : Int) ≤ (L : Int)) = true := by simp; omega
    have t2 : decide ((L : Int) ≤ 8) = true := by simp; omega
    go_wp2_with fail
    clear t1 t2
    go_loopg [7, 39] L (fun k s7 s39 wr => ∃ i : Nat, i + k = L ∧ s39 = .int .i64 (i : Int) ∧ s7 = .bool true ∧ wr = w2)
    case atStart => exact ⟨0, by omega, rfl, rfl, rfl⟩
    case round =>
      obtain ⟨i, hi, rfl, rfl, rfl⟩ := hrel
      by_cases hlt : i < L
      · obtain ⟨blk, off, x, rfl, hb, cx, hx⟩ := KEYS.out wr.heap.size wr K2.out.size K2.out i hlt
        obtain ⟨ax, nx, cpx, rfl⟩ := cells_form hx
        have hnx : nx = (keys.getD i []).length := by
          obtain ⟨_, _, _, e, h1, _⟩ := id hx
          injection e with _ e2 _
          rw [e2, h1, ints_length]
        have hmem : keys.getD i [] ∈ keys := by
          rw [List.getD_eq_getElem?_getD, List.getElem?_eq_getElem (by rw [HKL.out]; exact hlt)]
          exact List.getElem_mem _
        have h64 := HK3.out _ hmem
        rw [← hnx] at h64
        have l0 : (i : Int) < (L : Int) := by omega
        have t3 : decide ((1000 : Int) < (nx : Int)) = false := by simp; omega
        have t4 : decide ((1 : Int) ≤ (nx : Int)) = true := by simp; omega
        have t5 : decide ((nx : Int) ≤ 64) = true := by simp; omega
        clear hx hb hmem hnx h64
        go_wp2_with fail
        go_roundg (gk - 1)
        case measure => omega
        case rel => exact ⟨i + 1, by omega, by go_num, rfl, rfl⟩
      · obtain rfl : L = i := by omega
        clear hlt
        go_upto_region 18 with fail
        go_cut [10] (fun s10 wx => Hid (∃ mb hbk lb U2, s10 = .pointer (some ⟨mb, 0, none⟩) ∧ (U ≤ hbk ∧ U ≤ lb ∧ U ≤ mb) ∧ TableAt wx B U tb g keys (List.replicate L 0) ∧ MTab wx mb hbk lb U2 a1 c1 L (List.replicate L 0) ∧ Keep (· < w.heap.size) w wx))
        case first =>
          have mk : ∀ w0 : World, (Instr.makeSlice 76 (.int .i64 (L : Int)) (.int .i64 (L : Int))).run Tryd.prog w0 = .ok (.slice (some ⟨w0.heap.size, 0, none⟩) L L) (w0.alloc (.cells (ints .i64 (List.replicate L 0)).toArray 3)) := by
            obtain ⟨i0, hi0, hz0, hs0, hb0⟩ := info_parts (show (Tryd.prog.info? 3).map (fun i => (i.zero, i.size, i.bytes)) = some (some (.int .i64 0), 1, 8) by kernel_rfl)
            exact fun w0 => make_ints (P := Tryd.prog) 76 3 i0 .i64 8 Tryd.underlying76 hi0 hz0 hs0 hb0 L L (Nat.le_refl _) (by omega) (by omega) w0
          have MK := hid mk
          clear mk
          refine wp_region_plan [false, true, true, true, false, true, false, false] (.free 1 (.free 2 (.free 3 (.alt (.one 0 (.one 4 (.free 5 (.one 6 (.last 7))))) (.one 4 (.one 0 (.free 5 (.one 6 (.last 7)))))))))
            (fun _ => True) (by kernel_rfl) (by kernel_rfl) trivial ?_
          iterate 3 (refine plan_free rfl rfl (fun K hK => ?_); go_simp; refine hK _ ?_; clear hK K)
          have kd : Keep (· < wr.heap.size) wr wr.drew := (Keep.refl _ _).drew
          refine ⟨?oA, ?oB⟩
          case' oA =>
            refine plan_one rfl rfl (fun K hK => ?_); go_simp
            refine (refnew_walk wr.drew).mono ?_
            rintro e w3 ⟨rfl, k3, h3⟩
            have k03 := kd.trans k3
            refine hK _ _ ⟨trivial, ?_⟩
            clear hK K
            have m3 := MK.out w3
            refine plan_one rfl rfl (fun K hK => ?_); go_simp
            have k4 : Keep (· < w3.heap.size) w3 (w3.alloc (.cells (ints .i64 (List.replicate L 0)).toArray 3)) := (Keep.refl _ _).alloc _ (fun _ h => h)
            refine hK _ _ ⟨trivial, ?_⟩
            clear hK K m3
            have bd := build_mtab wr.drew.heap.size a1 L c1 w3.heap.size
            refine plan_build rfl rfl 78 [(0, .tmp 73), (1, .tmp 74), (2, .tmp 77)] rfl (.agg ([.pointer (some ⟨wr.drew.heap.size, 0, none⟩), .slice a1 L c1, .slice (some ⟨w3.heap.size, 0, none⟩) L L] : List Value).toArray) (fun w0 => bd w0) (fun K hK => ?_); go_simp; refine hK _ ?_; clear hK K bd
            have hw := WordsIn.of h3
            refine plan_world (fun w4 => (Keep (· < wr.heap.size) wr w4 ∧ w3.heap.size < w4.heap.size) ∧ w4.heap[w3.heap.size]? = some (.cells (ints .i64 (List.replicate L 0)).toArray 3 (0, 0)) ∧ WordsIn w4 wr.heap.size w3.heap.size) ⟨⟨k03.trans (k4.mono (fun b h => Nat.lt_of_lt_of_le h k03.size)), by simp⟩, heap_alloc_new w3 _, hw.keep k4 (fun j _ h => h)⟩ ?_
            rintro w4 ⟨⟨q1, q2⟩, q3, q4⟩
            have z03 := k03.size
            have zz : wr.heap.size < w3.heap.size := by obtain ⟨_, _, _, _, _, _, _, h6, _⟩ := hw; exact h6
            obtain ⟨hbk, hhb⟩ : ∃ b, wr.heap.size = b := ⟨_, rfl⟩
            obtain ⟨lb, hlb⟩ : ∃ b, w3.heap.size = b := ⟨_, rfl⟩
            obtain ⟨U2, hU2⟩ : ∃ b, w3.heap.size = b := ⟨_, rfl⟩
            have H4 := hid (show (Keep (· < wr.heap.size) wr w4 ∧ (wr.heap.size ≤ hbk ∧ wr.heap.size ≤ lb ∧ lb < w4.heap.size)) ∧ w4.heap[lb]? = some (.cells (ints .i64 (List.replicate L 0)).toArray 3 (0, 0)) ∧ WordsIn w4 hbk U2 ∧ (lb < hbk ∨ U2 ≤ lb) by
              rw [hhb] at q4; rw [hlb] at q2 q3; rw [hU2] at q4
              exact ⟨⟨q1, by omega, by omega, q2⟩, q3, q4, by omega⟩)
            rw [hlb]
            first | rw [hhb] | rw [show wr.drew.heap.size = hbk from hhb]
            clear q1 q2 q3 q4 hhb hlb hU2 k03 k3 k4 h3 hw z03 zz
          case' oB =>
            have m3 := MK.out wr.drew
            refine plan_one rfl rfl (fun K hK => ?_); go_simp
            have k3 : Keep (· < wr.heap.size) wr (wr.drew.alloc (.cells (ints .i64 (List.replicate L 0)).toArray 3)) := kd.alloc _ (fun _ h => h)
            refine hK _ _ ⟨trivial, ?_⟩
            clear hK K m3
            refine plan_world (fun w3 => Keep (· < wr.heap.size) wr w3 ∧ w3.heap[wr.heap.size]? = some (.cells (ints .i64 (List.replicate L 0)).toArray 3 (0, 0)) ∧ wr.heap.size < w3.heap.size) ⟨k3, heap_alloc_new wr.drew _, by simp⟩ ?_
            rintro w3 ⟨k3', h3, z3⟩
            refine plan_one rfl rfl (fun K hK => ?_); go_simp
            refine (refnew_walk w3).mono ?_
            rintro e w4 ⟨rfl, k4, h4⟩
            have k04 := k3'.trans (k4.mono (fun b h => Nat.lt_trans h z3))
            refine hK _ _ ⟨trivial, ?_⟩
            clear hK K
            have bd := build_mtab w3.heap.size a1 L c1 wr.drew.heap.size
            refine plan_build rfl rfl 78 [(0, .tmp 73), (1, .tmp 74), (2, .tmp 77)] rfl (.agg ([.pointer (some ⟨w3.heap.size, 0, none⟩), .slice a1 L c1, .slice (some ⟨wr.drew.heap.size, 0, none⟩) L L] : List Value).toArray) (fun w0 => bd w0) (fun K hK => ?_); go_simp; refine hK _ ?_; clear hK K bd
            have hw := WordsIn.of h4
            have z34 := k4.size
            obtain ⟨hbk, hhb⟩ : ∃ b, w3.heap.size = b := ⟨_, rfl⟩
            obtain ⟨lb, hlb⟩ : ∃ b, wr.heap.size = b := ⟨_, rfl⟩
            obtain ⟨U2, hU2⟩ : ∃ b, w4.heap.size = b := ⟨_, rfl⟩
            have H4 := hid (show (Keep (· < wr.heap.size) wr w4 ∧ (wr.heap.size ≤ hbk ∧ wr.heap.size ≤ lb ∧ lb < w4.heap.size)) ∧ w4.heap[lb]? = some (.cells (ints .i64 (List.replicate L 0)).toArray 3 (0, 0)) ∧ WordsIn w4 hbk U2 ∧ (lb < hbk ∨ U2 ≤ lb) by
              rw [hhb] at hw
              refine ⟨⟨k04, by omega, by omega, by omega⟩, ?_, by rw [hU2] at hw; exact hw, by omega⟩
              rw [← hlb]; exact (k4.block _ z3).trans h3)
            rw [hhb]
            first | rw [hlb] | rw [show wr.drew.heap.size = lb from hlb]
            clear hhb hlb hU2 k3 k3' k04 k4 h3 h4 hw z3 z34
          all_goals
            refine plan_one rfl rfl (fun K hK => ?_); go_simp
            have k5 : Keep (· < w4.heap.size) w4 (w4.alloc (.cells ([.pointer (some ⟨hbk, 0, none⟩), .slice a1 L c1, .slice (some ⟨lb, 0, none⟩) L L] : List Value).toArray 78)) := (Keep.refl _ _).alloc _ (fun _ h => h)
            refine hK _ _ ⟨trivial, ?_⟩
            clear hK K
            have hm5 : MTab (w4.alloc (.cells ([.pointer (some ⟨hbk, 0, none⟩), .slice a1 L c1, .slice (some ⟨lb, 0, none⟩) L L] : List Value).toArray 78)) w4.heap.size hbk lb U2 a1 c1 L (List.replicate L 0) :=
              ⟨heap_alloc_new w4 _, (k5.block _ H4.out.1.2.2.2).trans H4.out.2.1, H4.out.2.2.1.keep k5 (fun j _ hj => by obtain ⟨_, _, _, _, _, _, _, _, h7⟩ := H4.out.2.2.1; omega), by simp, by have := H4.out.1.2.2.2; omega, H4.out.2.2.2⟩
            refine plan_world (fun w5 => (Keep (· < wr.heap.size) wr w5 ∧ wr.heap.size ≤ w4.heap.size) ∧ MTab w5 w4.heap.size hbk lb U2 a1 c1 L (List.replicate L 0)) ⟨⟨H4.out.1.1.trans (k5.mono (fun b h => Nat.lt_of_lt_of_le h H4.out.1.1.size)), H4.out.1.1.size⟩, hm5⟩ ?_
            rintro w5 ⟨⟨k05, z45⟩, m5⟩
            obtain ⟨mb, hmb⟩ : ∃ b, w4.heap.size = b := ⟨_, rfl⟩
            rw [hmb] at m5 z45 ⊢
            have H5 := hid (And.intro k05 (And.intro m5 (And.intro z45 (And.intro H4.out.1.2.1 H4.out.1.2.2.1))))
            clear k05 m5 z45 hmb hm5 k5 H4
            refine plan_last rfl rfl (fun K hK => ?_); go_simp; refine hK _ _ ?_; clear hK K
            have HS5 := hid (show (U ≤ hbk ∧ U ≤ lb ∧ U ≤ mb) ∧ TableAt w5 B U tb g keys (List.replicate L 0) ∧ Keep (· < w.heap.size) w w5 by
              have hue := HUe.out
              refine ⟨by have := H5.out.2.2; omega, ?_, K2.out.trans (H5.out.1.mono (fun b h => Nat.lt_of_lt_of_le h K2.out.size))⟩
              have := HT2.out.keep H5.out.1 (fun b _ hb => by omega)
              rwa [HKL.out] at this)
            have HM5 := hid H5.out.2.1
            go_wp2_with fail
            go_meet
            case rel => exact hid ⟨mb, hbk, lb, U2, rfl, HS5.out.1, HS5.out.2.1, HM5.out, HS5.out.2.2⟩
        case rest =>
          obtain ⟨mb, hbk, lb, U2, rfl, hU3, hT5, hM5, hK5⟩ := hcut.out
          have HS5 := hid (And.intro hU3 (And.intro hT5 hK5))
          have HM5 := hid hM5
          clear hU3 hT5 hM5 hK5 hcut
          obtain ⟨wo, rfl⟩ : ∃ wo : World, wo = wr := ⟨_, rfl⟩
          go_wp2_with fail
          go_loopg [82] N (fun k s82 wx => ∃ (i : Nat) (lasts : List Nat), i + k = N ∧ s82 = .int .i64 (i : Int) ∧ TableAt wx B U tb g keys lasts ∧ MTab wx mb hbk lb U2 a1 c1 L lasts ∧ Keep (· < w.heap.size) w wx)
          case atStart => exact ⟨0, List.replicate L 0, by omega, rfl, HS5.out.2.1, HM5.out, HS5.out.2.2⟩
          case round =>
            obtain ⟨i, lasts, hi, rfl, htr, hmr, hkr⟩ := hrel
            have HR := hid (And.intro htr (And.intro hmr hkr))
            clear htr hmr hkr HM5
            by_cases hlt : i < N
            · obtain ⟨sb, so, rfl, hsb, hsr, hw1, hw2, hsx, hsv⟩ := HSE.out i hlt
              obtain ⟨qi, hqi⟩ : ∃ q, S i = q := ⟨_, rfl⟩
              rw [hqi] at hsr hw1 hw2 hsx hsv
              obtain ⟨tt, kk, qq, bv, body, sp⟩ := qi
              simp only at hw1 hw2 hsx hsv
              obtain ⟨ba, bn, bc, rfl⟩ := cells_form hsv
              have hkk := (wf64 hw1).2
              have hsp := wf64 hw2
              have HSI := hid (And.intro hsr (And.intro hsx (hsv.lt.mono (q := fun b => b < w.heap.size) (fun _ h => h.1))))
              have l0 : (i : Int) < (N : Int) := by omega
              have hr5 : wr.rangeAt sb (so + i * 5) (sdC tt kk qq (.slice ba bn bc) sp) := fun j v hv => (HR.out.2.2.cell (x := ⟨sb, so + i * 5 + j, none⟩) hsb).trans (hsr j v hv)
              have hi5 : (Tryd.prog.info? 80).map (·.size) = some (sdC tt kk qq (.slice ba bn bc) sp).length := send_size (tt, kk, qq, .slice ba bn bc, body, sp)
              have hi5' : (Tryd.prog.info? 80).map (·.size) = some (sdC tt kk qq (.slice ba bn bc) sp).toArray.size := hi5
              have h15 := send_one tt kk qq ba bn bc sp
              have HR5 := hid hr5
              clear hsr hw1 hw2 hsx hsv hqi hr5 hsb
              go_upto_region 22 with (first | refine wpList_load_mid rfl 80 (.tmp 85) rfl sb (so + i * 5) rfl (sdC tt kk qq (.slice ba bn bc) sp) _ HR5.out Tryd.underlying80 rfl hi5 ?_ | refine wpList_store_row rfl 80 (.tmp 12) (.tmp 86) rfl wr.heap.size (sdC tt kk qq (.slice ba bn bc) sp).toArray rfl rfl 80 _ (heap_alloc_new wr _) hi5' rfl h15 ?_)
              refine wp_world (fun w6 => Keep (· < wr.heap.size) wr w6 ∧ w6.heap[wr.heap.size]? = some (.cells (sdC tt kk qq (.slice ba bn bc) sp).toArray 80 (0, 0)) ∧ wr.heap.size < w6.heap.size) ⟨((Keep.refl _ _).alloc _ (fun _ h => h)).setRow _ (by simp), heap_setRow (heap_alloc_new wr _) _, by simp⟩ ?_
              rintro w6 ⟨k6, s6, z6⟩
              have zr := HR.out.2.2.size
              obtain ⟨Sb, hSb⟩ : ∃ b, wr.heap.size = b := ⟨_, rfl⟩
              have hUr := HR.out.1.lt.2.2.2.2.2
              have H6 := hid (And.intro (show Keep (· < wr.heap.size) wr w6 from k6) (And.intro (HR.out.2.2.trans (k6.mono (fun b h => Nat.lt_of_lt_of_le h zr))) (And.intro (HR.out.1.keep k6 (fun b _ hb => Nat.lt_of_lt_of_le hb hUr)) (HR.out.2.1.next k6 (fun _ h => h)))))
              rw [hSb] at s6 z6 ⊢
              have zSb : w.heap.size ≤ Sb := by omega
              have S6 := hid s6
              clear k6 s6 hSb zr hi5' h15 HR5 l0
              by_cases h40 : 40 < i
              · have t40 : decide ((40 : Int) < (i : Int)) = true := by simp; omega
                clear h40
                go_wp2_with fail
                refine (last_out tb (-1) B U g keys lasts w6 (by omega) H6.out.2.2.1).mono ?_
                rintro e w7 ⟨rfl, rfl⟩
                go_wp2_with fail
                refine (last_out tb (L : Int) B U g keys lasts w6 (by rw [HKL.out]; omega) H6.out.2.2.1).mono ?_
                rintro e w7 ⟨rfl, rfl⟩
                go_wp2_with fail
                go_ret
                exact ⟨rfl, H6.out.2.1⟩
              have t40 : decide ((40 : Int) < (i : Int)) = false := by simp; omega
              clear h40
              go_upto_region 23 with fail
              clear t40
              have SS := hid (show ∀ wx : World, Keep (· < w6.heap.size) w6 wx → wx.rangeAt Sb 0 (sdC tt kk qq (.slice ba bn bc) sp) ∧ wx.cell? ⟨mb, 0, none⟩ = some (.pointer (some ⟨hbk, 0, none⟩)) from fun wx kx => ⟨range_whole ((kx.block _ z6).trans S6.out), (kx.cell (x := ⟨mb, 0, none⟩) H6.out.2.2.2.lt.1).trans (cell_at H6.out.2.2.2.blk 0)⟩)
              refine wp_region_plan [true, true, true, true, true, true, false, false] (.free 0 (.free 1 (.free 2 (.free 3 (.free 4 (.free 5 (.one 6 (.last 7))))))))
                (fun wx => Keep (· < w6.heap.size) w6 wx) (by kernel_rfl) (by kernel_rfl) (Keep.refl _ _).drew ?_
              refine plan_load rfl rfl 80 (.tmp 12) rfl Sb 0 rfl (sdC tt kk qq (.slice ba bn bc) sp) _ (fun w0 h0 => (SS.out w0 h0).1) Tryd.underlying80 rfl hi5 (fun K hK => ?_); go_simp; refine hK _ ?_; clear hK K
              iterate 3 (refine plan_free rfl rfl (fun K hK => ?_); go_simp; refine hK _ ?_; clear hK K)
              refine plan_held (.pointer (some ⟨hbk, 0, none⟩)) rfl rfl (fun w0 h0 => by obtain ⟨_, q1⟩ := SS.out w0 h0; clear h0; go_simp) (fun K hK => ?_); go_simp; refine hK _ ?_; clear hK K
              refine plan_free rfl rfl (fun K hK => ?_); go_simp; refine hK _ ?_; clear hK K
              have kd : Keep (· < w6.heap.size) w6 w6.drew := (Keep.refl _ _).drew
              refine plan_one rfl rfl (fun K hK => ?_); go_simp
              refine (sent_walk tt kk qq sp _ body hbk U2 a1 L c1 lb keys w6.drew _ (fun k hk => ⟨HKX.out k hk, (HK3.out k hk).2⟩) HKL.out ⟨m1, q1'⟩ HSI.out.2.1 (H6.out.2.2.2.next kd (fun _ h => h)).has (KEYS.out lb w6.drew (by have := HS5.out.1; have := K2.out.size; have := HUe.out; omega) (H6.out.2.1.trans (kd.mono (fun b h => Nat.lt_of_lt_of_le h H6.out.2.1.size)))) (HSI.out.2.2.keep (H6.out.2.1.trans (kd.mono (fun b h => Nat.lt_of_lt_of_le h H6.out.2.1.size))) (fun _ h => h)) hkk).mono ?_
              rintro e w7 ⟨vb, bs, rfl, hbs, hbl, cb7, k7'⟩
              have k7 : Keep (· < w6.heap.size) w6 w7 := kd.trans k7'
              refine hK _ _ ⟨k7, ?_⟩
              clear hK K
              obtain ⟨va, vn, vc, rfl⟩ := cells_form cb7
              refine plan_last rfl rfl (fun K hK => ?_); go_simp; refine hK _ _ ?_; clear hK K
              have hU6 := H6.out.2.2.1.lt.2.2.2.2.2
              have hvn : vn = bs.length := by
                obtain ⟨_, _, _, e, h1, _⟩ := id cb7
                injection e with _ e2 _
                rw [e2, h1, ints_length]
              have hvc : vn ≤ vc := by
                obtain ⟨_, _, _, e, h1, h2, _⟩ := id cb7
                injection e with _ e2 e3
                omega
              have H7 := hid (And.intro (H6.out.2.1.trans (k7.mono (fun b h => Nat.lt_of_lt_of_le h H6.out.2.1.size))) (And.intro (H6.out.2.2.1.keep k7 (fun b _ hb => Nat.lt_of_lt_of_le hb hU6)) (And.intro (H6.out.2.2.2.next k7 (fun _ h => h)) (And.intro (cb7.mono (q := fun b => U ≤ b) (fun b (hb : w6.heap.size ≤ b) => by omega)) hbs))))
              have sp7 : w7.cell? ⟨Sb, 4, none⟩ = some (.int .i64 sp) := by
                rw [cell_at ((k7.block _ z6).trans S6.out)]; rfl
              have HVN := hid hvn
              have HBL := hid hbl
              have zU7 : U ≤ w7.heap.size := H7.out.2.1.lt.2.2.2.2.2
              clear k7 k7' kd cb7 hbs SS H6 hbl hvn hU6
              go_upto_if 98 with fail
              go_cut [13] (fun s13 wx => Hid (∃ ua un uc us, s13 = .slice ua un uc ∧ (∀ x ∈ us, x < 256) ∧ Cells wx (fun b => U ≤ b) (.slice ua un uc) (ints .u8 us) ∧ wx = w7))
              case first =>
                by_cases hneg : sp < 0
                · have tn : decide (sp < 0) = true := by simp; omega
                  obtain ⟨rr, hrr, hrr2⟩ := neg_rem sp hneg
                  have m1 : (if (rr : Int) < (vn : Int) then (rr : Int) else (vn : Int)) = ((min vn rr : Nat) : Int) := by split <;> omega
                  have m2 : (if rr < vn then (rr : Int) else (vn : Int)) = ((min vn rr : Nat) : Int) := by split <;> omega
                  obtain ⟨mm, hmm⟩ : ∃ m, min vn rr = m := ⟨_, rfl⟩
                  rw [hmm] at m1 m2
                  have hmv : mm ≤ vc := by omega
                  have HMV := hid (show mm ≤ vn by omega)
                  clear hmm
                  go_wp2_with fail
                  go_meet
                  case rel =>
                    exact hid ⟨_, _, _, bs.take mm, rfl, fun x hx => H7.out.2.2.2.2 x (List.mem_of_mem_take hx), by rw [← ints_take]; exact H7.out.2.2.2.1.take mm (by rw [ints_length, ← HVN.out]; exact HMV.out), rfl⟩
                · have tn : decide (sp < 0) = false := by simp; omega
                  go_wp2_with fail
                  go_meet
                  case rel => exact hid ⟨_, _, _, bs, rfl, H7.out.2.2.2.2, H7.out.2.2.2.1, rfl⟩
              case rest =>
                obtain ⟨ua, un, uc, us, rfl, hus, cus, hww⟩ := hcut.out
                clear hcut
                subst hww
                have HUS := hid (And.intro hus cus)
                clear hus cus sp7 S6 z6
                go_wp2_with fail
                have hgt := H7.out.2.1.lt
                have hU3 := HS5.out.1
                have hBg : w.heap.size ≤ g := by omega
                refine (topen_any tb B U g keys lasts xs _ us wc _ HUS.out.1 (fun k hk => ⟨HKX.out k hk, by have := (HK3.out k hk).2; omega⟩) (HT.out.keep H7.out.1 HT.out.lt) (HE.out.keep H7.out.1 (fun _ h => h)) H7.out.2.1 HUS.out.2).mono ?_
                rintro e w8 ⟨fv, rfl, hfv, ht8, k8⟩
                obtain ⟨t0, s0, tag0, body0, htl0, hF, hMo⟩ := opened us
                obtain ⟨fa, fn, fc, hoF, cf⟩ := hF fv w8 _ hfv
                rw [hoF]
                obtain ⟨no, hno⟩ : ∃ no, openNo keys lasts us = no := ⟨_, rfl⟩
                obtain ⟨la2, hla2⟩ : ∃ l, openLasts keys lasts us = l := ⟨_, rfl⟩
                have hno17 := openNo_le keys lasts us
                rw [hno] at hno17 ⊢
                rw [hla2] at ht8
                have HNO := hid (And.intro hno hla2)
                have HMO := hid hMo
                have HTL := hid htl0
                have HUX := hid HUS.out.1
                have hlbc := H7.out.2.2.1.lt.2.1
                have H8 := hid (And.intro (H7.out.1.trans (k8.mono (fun b h => ⟨Nat.lt_of_lt_of_le h H7.out.1.size, by omega⟩))) (And.intro ht8 (And.intro (H7.out.2.2.1.keep k8 ⟨H7.out.2.2.1.lt.1, by omega⟩ ⟨H7.out.2.2.1.lt.2.1, by omega⟩ (fun j h1 h2 => ⟨Nat.lt_of_lt_of_le h2 H7.out.2.2.1.lt.2.2, by omega⟩)) (And.intro (cf.lt.mono (q := fun b => b < w8.heap.size ∧ lb < b) (fun b hb => ⟨hb.1, by have := hb.2; omega⟩)) ((HUS.out.2.lt.keep k8 (fun b hb => ⟨hb.1, by omega⟩)).mono (q := fun b => U ≤ b) (fun b hb => hb.2))))))
                have hi8 := frC_size HTL.out t0 s0 (.slice fa fn fc)
                have hl8 := hid (show 35 = (frC t0 s0 tag0 (.slice fa fn fc)).toArray.size by rw [List.size_toArray, frC_length HTL.out])
                have h18 := frC_one t0 s0 tag0 (.slice fa fn fc) rfl
                clear hno hla2 hF hMo hoF hfv ht8 k8 cf htl0 H7 HUS HVN HBL zU7 hlbc
                go_upto_region 27 with (refine wpList_store_row rfl 49 (.tmp 14) (.tmp 112) rfl w8.heap.size (frC t0 s0 tag0 (.slice fa fn fc)).toArray rfl rfl 49 _ (heap_alloc_new w8 _) hi8 hl8.out h18 ?_)
                refine wp_world (fun w9 => Keep (· < w8.heap.size) w8 w9 ∧ w9.heap[w8.heap.size]? = some (.cells (frC t0 s0 tag0 (.slice fa fn fc)).toArray 49 (0, 0)) ∧ w8.heap.size < w9.heap.size) ⟨((Keep.refl _ _).alloc _ (fun _ h => h)).setRow _ (by simp), heap_setRow (heap_alloc_new w8 _) _, by simp⟩ ?_
                rintro w9 ⟨k9, F9, z9⟩
                have hU8 := H8.out.2.1.lt.2.2.2.2.2
                obtain ⟨J1, hJ1⟩ : ∃ j, w8.heap.size = j := ⟨_, rfl⟩
                have hlbJ : lb < J1 := by rw [← hJ1]; exact H8.out.2.2.1.lt.2.1
                have H9 := hid (And.intro (H8.out.1.trans (k9.mono (fun b h => Nat.lt_of_lt_of_le h H8.out.1.size))) (And.intro (H8.out.2.1.keep k9 (fun b _ hb => Nat.lt_of_lt_of_le hb hU8)) (And.intro (H8.out.2.2.1.next k9 (fun _ h => h)) (And.intro ((H8.out.2.2.2.1.keep k9 (fun b hb => hb.1)).mono (q := fun b => b < J1 ∧ lb < b) (fun b hb => ⟨by have := hb.1; omega, hb.2⟩)) (And.intro ((H8.out.2.2.2.2.lt.keep k9 (fun b hb => hb.1)).mono (q := fun b => U ≤ b) (fun b hb => hb.2)) F9)))))
                rw [hJ1] at z9 H9 ⊢
                clear k9 F9 hJ1 H8 hl8 h18
                go_wp2_with fail
                refine (mopen_any mb hbk lb U2 a1 c1 L keys lasts _ us w9 _ (by
                  exact HUX.out) (fun k hk => ⟨HKX.out k hk, (HK3.out k hk).2⟩) HKL.out ⟨m1, q1'⟩ H9.out.2.2.1 (KEYS.out lb w9 (by omega) H9.out.1) H9.out.2.2.2.2.1).mono ?_
                rintro e w10 ⟨tv, rv, rfl, hrv, hm10, k10⟩
                obtain ⟨ra, rn, rc, qa, qn, qc, hoM, ctv, crv⟩ := HMO.out tv rv w10 _ hrv
                rw [hoM, HNO.out.1]
                rw [HNO.out.2] at hm10
                have H10 := hid (And.intro (H9.out.1.trans (k10.mono (fun b h => ⟨Nat.lt_of_lt_of_le h H9.out.1.size, by omega⟩))) (And.intro (H9.out.2.1.keep k10 (fun b _ hb => ⟨by omega, by omega⟩)) (And.intro hm10 (And.intro (H9.out.2.2.2.1.keep k10 (fun b hb => ⟨by omega, by omega⟩)) (And.intro ((k10.block J1 ⟨z9, by omega⟩).trans H9.out.2.2.2.2.2) (And.intro ctv crv))))))
                have hi10 := rfr_size t0 s0 (.slice ra rn rc) (.slice qa qn qc)
                have h110 := rfr_one t0 s0 ra qa rn rc qn qc
                have z10 := Nat.lt_of_lt_of_le z9 k10.size
                clear hrv hm10 k10 hoM ctv crv HMO H9 z9
                go_upto_region 28 with (refine wpList_store_row rfl 83 (.tmp 16) (.tmp 118) rfl w10.heap.size (rfC t0 s0 (.slice ra rn rc) (.slice qa qn qc)).toArray rfl rfl 83 _ (heap_alloc_new w10 _) hi10 rfl h110 ?_)
                refine wp_world (fun w11 => Keep (· < w10.heap.size) w10 w11 ∧ w11.heap[w10.heap.size]? = some (.cells (rfC t0 s0 (.slice ra rn rc) (.slice qa qn qc)).toArray 83 (0, 0)) ∧ w10.heap.size < w11.heap.size) ⟨((Keep.refl _ _).alloc _ (fun _ h => h)).setRow _ (by simp), heap_setRow (heap_alloc_new w10 _) _, by simp⟩ ?_
                rintro w11 ⟨k11, F11, z11⟩
                have hU10 := H10.out.2.1.lt.2.2.2.2.2
                obtain ⟨J2, hJ2⟩ : ∃ j, w10.heap.size = j := ⟨_, rfl⟩
                have H11 := hid (And.intro (H10.out.1.trans (k11.mono (fun b h => Nat.lt_of_lt_of_le h H10.out.1.size))) (And.intro (H10.out.2.1.keep k11 (fun b _ hb => Nat.lt_of_lt_of_le hb hU10)) (And.intro (H10.out.2.2.1.next k11 (fun _ h => h)) (And.intro (H10.out.2.2.2.1.lt.keep k11 (fun b hb => hb.1)) (And.intro ((k11.block J1 z10).trans H10.out.2.2.2.2.1) (And.intro (or_next H10.out.2.2.2.2.2.1 k11) (And.intro (H10.out.2.2.2.2.2.2.lt.keep k11 (fun b hb => hb.1)) F11)))))))
                rw [hJ2] at z10 z11 H11 ⊢
                clear k11 F11 hJ2 H10 h110 hU10
                go_wp2_with fail
                refine (num_err xs no w11 hno17 (HE.out.keep H11.out.1 (fun _ h => h)) HD.out).mono ?_
                rintro e w12 ⟨rfl, k12⟩
                have hU11 := H11.out.2.1.lt.2.2.2.2.2
                have H12 := hid (And.intro (H11.out.1.trans (k12.mono (fun b h => Nat.lt_of_lt_of_le h H11.out.1.size))) (And.intro (H11.out.2.1.keep k12 (fun b _ hb => Nat.lt_of_lt_of_le hb hU11)) (And.intro (H11.out.2.2.1.next k12 (fun _ h => h)) (And.intro (H11.out.2.2.2.1.lt.keep k12 (fun b hb => hb.1)) (And.intro ((k12.block J1 (by omega)).trans H11.out.2.2.2.2.1) (And.intro (or_next H11.out.2.2.2.2.2.1 k12) (And.intro (H11.out.2.2.2.2.2.2.1.lt.keep k12 (fun b hb => hb.1)) ((k12.block J2 z11).trans H11.out.2.2.2.2.2.2.2))))))))
                clear k12 H11 hU11
                go_wp2_with (first | refine wpList_load_row_if (by rfl) 49 (.tmp 14) rfl J1 rfl 49 _ (0, 0) _ H12.out.2.2.2.2.1 Tryd.underlying49 rfl hi8 ?_ | refine wpList_load_row_if (by rfl) 83 (.tmp 16) rfl J2 rfl 83 _ (0, 0) _ H12.out.2.2.2.2.2.2.2 Tryd.underlying83 rfl hi10 ?_)
                refine (same21_walk t0 s0 tag0 body0 _ _ _ w12 _ _ _ HTL.out H12.out.2.2.2.2.2.1 H12.out.2.2.2.1 H12.out.2.2.2.2.2.2.1).mono ?_
                rintro e w13 ⟨rfl, k13⟩
                have hU12 := H12.out.2.1.lt.2.2.2.2.2
                have H13 := hid (And.intro (H12.out.1.trans (k13.mono (fun b h => Nat.lt_of_lt_of_le h H12.out.1.size))) (And.intro (H12.out.2.1.keep k13 (fun b _ hb => Nat.lt_of_lt_of_le hb hU12)) (H12.out.2.2.1.next k13 (fun _ h => h))))
                clear k13 H12 hU12 hi8 hi10
                obtain ⟨wo2, rfl⟩ : ∃ wo : World, wo = wr := ⟨_, rfl⟩
                go_wp2_with fail
                go_loopg [132] L (fun k s132 wx => ∃ j : Nat, j + k = L ∧ s132 = .int .i64 (j : Int) ∧ TableAt wx B U tb g keys la2 ∧ MTab wx mb hbk lb U2 a1 c1 L la2 ∧ Keep (· < w.heap.size) w wx)
                case atStart => exact ⟨0, by omega, rfl, H13.out.2.1, H13.out.2.2, H13.out.1⟩
                case round =>
                  obtain ⟨j, hj, rfl, htj, hmj, hkj⟩ := hrel
                  have HJ := hid (And.intro htj (And.intro hmj hkj))
                  clear htj hmj hkj
                  by_cases hjl : j < L
                  · have lj0 : (j : Int) < (L : Int) := by omega
                    have S7 := hid (show ∀ wx : World, Keep (fun _ => True) wr wx → wx.cell? ⟨mb, 2, none⟩ = some (.slice (some ⟨lb, 0, none⟩) L L) ∧ wx.cell? ⟨lb, j, none⟩ = some (.int .i64 (la2.getD j 0 : Nat)) from fun wx kx =>
                      ⟨(kx.cell (x := ⟨mb, 2, none⟩) trivial).trans (cell_at HJ.out.2.1.blk 2), (kx.cell (x := ⟨lb, j, none⟩) trivial).trans (by rw [cell_at HJ.out.2.1.las, ints_get _ _ _ (by rw [HJ.out.2.1.len]; exact hjl)])⟩)
                    go_upto_region 33 with fail
                    refine wp_region_plan [true, true, false, true, true, true, true, true, true, true, true] (.free 0 (.free 1 (.free 3 (.free 4 (.free 5 (.free 6 (.free 7 (.free 8 (.free 9 (.one 2 (.free 10 (.done))))))))))))
                      (fun wx => Keep (fun _ => True) wr wx) (by kernel_rfl) (by kernel_rfl) (Keep.refl _ _).drew ?_
                    iterate 5 (refine plan_free rfl rfl (fun K hK => ?_); go_simp; refine hK _ ?_; clear hK K)
                    refine plan_held (.slice (some ⟨lb, 0, none⟩) L L) rfl rfl (fun w0 h0 => by obtain ⟨q1, q2⟩ := S7.out w0 h0; clear h0; go_simp) (fun K hK => ?_); go_simp; refine hK _ ?_; clear hK K
                    iterate 2 (refine plan_free rfl rfl (fun K hK => ?_); go_simp; refine hK _ ?_; clear hK K)
                    refine plan_held (.int .i64 (la2.getD j 0 : Nat)) rfl rfl (fun w0 h0 => by obtain ⟨q1, q2⟩ := S7.out w0 h0; clear h0; go_simp) (fun K hK => ?_); go_simp; refine hK _ ?_; clear hK K
                    refine plan_one rfl rfl (fun K hK => ?_); go_simp
                    refine (last_in tb j B U g keys la2 wr.drew (by rw [HKL.out]; exact hjl) (HJ.out.1.keep ((Keep.refl (fun _ => True) wr).drew) (fun _ _ _ => trivial))).mono ?_
                    rintro e wy ⟨rfl, rfl⟩
                    refine hK _ _ ⟨(Keep.refl _ _).drew, ?_⟩
                    clear hK K
                    refine plan_free rfl rfl (fun K hK => ?_); go_simp; refine hK _ ?_; clear hK K
                    unfold runs
                    go_wp2_with fail
                    go_roundg (gk - 1)
                    case measure => omega
                    case rel => exact ⟨j + 1, by omega, by go_num, HJ.out.1.keep ((Keep.refl (fun _ => True) wr).drew) (fun _ _ _ => trivial), HJ.out.2.1.next ((Keep.refl (fun _ => True) wr).drew) (fun _ _ => trivial), HJ.out.2.2.drew⟩
                  · obtain rfl : L = j := by omega
                    clear hjl
                    go_wp2_with fail
                    go_roundg (N - (i + 1))
                    case measure => omega
                    case rel => exact ⟨i + 1, la2, by omega, by go_num, HJ.out.1, HJ.out.2.1, HJ.out.2.2⟩
            · obtain rfl : N = i := by omega
              clear hlt
              go_wp2_with fail
              refine (last_out tb (-1) B U g keys lasts wr (by omega) HR.out.1).mono ?_
              rintro e w7 ⟨rfl, rfl⟩
              go_wp2_with fail
              refine (last_out tb (L : Int) B U g keys lasts wr (by rw [HKL.out]; omega) HR.out.1).mono ?_
              rintro e w7 ⟨rfl, rfl⟩
              go_wp2_with fail
              go_ret
              exact ⟨rfl, HR.out.2.2⟩
  · have HOK := hid hok
    have o0 : okI keys 0 = (decide (1 ≤ L) && decide (L ≤ 8)) := by unfold okI; rw [HKL.out]; simp
    have hev : errV xs 1 = .iface 217 (.pointer xs[0]?) := rfl
    rw [hev]
    have O0 := hid o0
    clear hok o0 hev
    have hoo : (decide ((1 : Int) ≤ (L : Int)) && decide ((L : Int) ≤ 8)) = okI keys 0 := by
      rw [O0.out]
      congr 1
      · exact decide_eq_decide.2 (by omega)
      · exact decide_eq_decide.2 (by omega)
    have hstart : ∃ o : Bool, okI keys 0 = o := ⟨_, rfl⟩
    obtain ⟨o, ho⟩ := hstart
    have HO := hid ho
    go_upto_region 6 with fail
    go_cut [7] (fun s7 wx => s7 = .bool o ∧ wx = w2)
    case first =>
      by_cases b1 : 1 ≤ L
      · have t1 : decide ((1 : Int) ≤ (L : Int)) = true := by simp; omega
        by_cases b2 : L ≤ 8
        · have t2 : decide ((L : Int) ≤ 8) = true := by simp; omega
          obtain rfl : o = true := by rw [← ho, ← hoo, t1, t2]; rfl
          clear hoo ho b1 b2
          go_wp2_with fail
          go_meet
          case rel => exact ⟨rfl, rfl⟩
        · have t2 : decide ((L : Int) ≤ 8) = false := by simp; omega
          obtain rfl : o = false := by rw [← ho, ← hoo, t1, t2]; rfl
          clear hoo ho b1 b2
          go_wp2_with fail
          go_meet
          case rel => exact ⟨rfl, rfl⟩
      · have t1 : decide ((1 : Int) ≤ (L : Int)) = false := by simp; omega
        obtain rfl : o = false := by rw [← ho, ← hoo, t1]; rfl
        clear hoo ho b1
        go_wp2_with fail
        go_meet
        case rel => exact ⟨rfl, rfl⟩
    case rest =>
      obtain ⟨rfl, rfl⟩ := hcut
      clear hoo ho
      go_wp2_with fail
      go_loopg [7, 39] L (fun k s7 s39 wr => ∃ (i : Nat) (o : Bool), i + k = L ∧ s39 = .int .i64 (i : Int) ∧ s7 = .bool o ∧ Hid (okI keys i = o) ∧ wr = wc)
      case atStart => exact ⟨0, o, by omega, rfl, rfl, HO, rfl⟩
      case round =>
        obtain ⟨i, o, hi, rfl, rfl, hok, rfl⟩ := hrel
        by_cases hlt : i < L
        · obtain ⟨blk, off, x, rfl, hb, cx, hx⟩ := KEYS.out wr.heap.size wr K2.out.size K2.out i hlt
          obtain ⟨ax, nx, cpx, rfl⟩ := cells_form hx
          have hnx : nx = (keys.getD i []).length := by
            obtain ⟨_, _, _, e, h1, _⟩ := id hx
            injection e with _ e2 _
            rw [e2, h1, ints_length]
          have l0 : (i : Int) < (L : Int) := by omega
          by_cases h1000 : 1000 < nx
          · have t3 : decide ((1000 : Int) < (nx : Int)) = true := by simp; omega
            clear hx hb hnx
            go_wp2_with fail
            go_ret
            exact ⟨rfl, K2.out⟩
          have t3 : decide ((1000 : Int) < (nx : Int)) = false := by simp; omega
          have hos := okI_succ keys i (by rw [HKL.out]; exact hlt)
          rw [hok.out, ← hnx] at hos
          have HOS := hid hos
          clear hx hb hnx hos h1000
          by_cases b1 : 1 ≤ nx
          · have t4 : decide ((1 : Int) ≤ (nx : Int)) = true := by simp; omega
            by_cases b2 : nx ≤ 64
            · have t5 : decide ((nx : Int) ≤ 64) = true := by simp; omega
              have HR := hid (show okI keys (i + 1) = o by rw [HOS.out, decide_eq_true b1, decide_eq_true b2]; simp)
              clear HOS
              cases o
              all_goals
                go_wp2_with fail
                go_roundg (gk - 1)
                case measure => omega
                case rel => exact ⟨i + 1, _, by omega, by go_num, rfl, HR, rfl⟩
            · have t5 : decide ((nx : Int) ≤ 64) = false := by simp; omega
              have HR := hid (show okI keys (i + 1) = false by rw [HOS.out, decide_eq_false b2]; simp)
              clear HOS
              cases o
              all_goals
                go_wp2_with fail
                go_roundg (gk - 1)
                case measure => omega
                case rel => exact ⟨i + 1, false, by omega, by go_num, rfl, HR, rfl⟩
          · have t4 : decide ((1 : Int) ≤ (nx : Int)) = false := by simp; omega
            have HR := hid (show okI keys (i + 1) = false by rw [HOS.out, decide_eq_false b1]; simp)
            clear HOS
            cases o
            all_goals
              go_wp2_with fail
              go_roundg (gk - 1)
              case measure => omega
              case rel => exact ⟨i + 1, false, by omega, by go_num, rfl, HR, rfl⟩
        · obtain rfl : L = i := by omega
          have hof : o = false := by
            have h1 := hok.out
            rw [← HKL.out, okI_all, HOK.out] at h1
            exact h1.symm
          subst hof
          clear hlt
          have NE := num_err xs 1 wr (by decide) (HE.out.keep K2.out (fun _ h => h)) HD.out
          have hev : errV xs 1 = .iface 217 (.pointer xs[0]?) := rfl
          rw [hev] at NE
          have NEH := hid NE
          clear NE hev
          go_wp2_with fail
          refine NEH.out.mono ?_
          rintro e w3 ⟨rfl, k3⟩
          have K3 := hid (K2.out.trans (k3.mono (fun b h => Nat.lt_of_lt_of_le h K2.out.size)))
          clear k3
          go_wp2_with fail
          go_ret
          exact ⟨rfl, K3.out⟩
end Go.Proofs.YtnpneippahdigaaDoor
